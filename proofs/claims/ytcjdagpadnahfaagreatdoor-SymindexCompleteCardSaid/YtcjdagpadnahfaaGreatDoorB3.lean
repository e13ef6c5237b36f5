/- The decoder's object. No condition. -/
import Derived.Test.YtcjdagpadnahfaaGreatDoorB2
set_option linter.unusedVariables false
set_option linter.unusedSimpArgs false
set_option linter.unnecessarySimpa false
namespace Go.Proofs.YtcjdagpadnahfaaGreatDoor
open Go Go.AW
set_option maxRecDepth 100000
set_option maxHeartbeats 8000000

def objV (l : List Sm) (w : W) : AV := .agg [symsV l, bytes w]
/-- The names that were seen. -/
def entS (l : List Sm) : List (Value × AV) := l.map fun s => (.string (bs s.name), boolV true)
def seenO (l : List Sm) : AObj := .map (entS l) (List.range l.length) l.length
theorem str_inj (a b : W) : (Value.string (bs a) = Value.string (bs b)) = (a = b) := by
  rw [eq_iff_iff]
  constructor
  · intro h
    have h1 := congrArg (fun v => match v with | Value.string s => s.data.toList | _ => []) h
    simpa using h1
  · rintro rfl; rfl
theorem tz_bool : tzero Tryz.prog 4 = some (.bool false) := by kernel_rfl
theorem seen_no (l : List Sm) (n : W) (h : hasS l n = false) : aFind (.string (bs n)) (entS l) = none := by
  induction l with
  | nil => rfl
  | cons s l ih =>
    simp only [hasS, List.any_cons, Bool.or_eq_false_iff, beq_eq_false_iff_ne, ne_eq] at h
    simp only [entS, List.map_cons, aFind, str_inj, h.1, if_false]
    have := ih h.2
    simp only [entS] at this
    rw [this]; rfl
theorem seen_yes (l : List Sm) (n : W) (h : hasS l n = true) : ∃ k, aFind (.string (bs n)) (entS l) = some (k, boolV true) := by
  induction l with
  | nil => simp [hasS] at h
  | cons s l ih =>
    simp only [entS, List.map_cons, aFind, str_inj]
    by_cases e : s.name = n
    · exact ⟨0, by simp [e]⟩
    · have : hasS l n = true := by simpa [hasS, e] using h
      obtain ⟨k, hk⟩ := ih this
      simp only [entS] at hk
      exact ⟨k + 1, by simp [e, hk]⟩
theorem seen_key (l : List Sm) : ∀ e ∈ entS l, keyOk .str e.1 := by
  intro e he
  obtain ⟨s, _, rfl⟩ := List.mem_map.1 he
  trivial
theorem object_c (σ1 : Store) (σ : Store) (i : Nat) (b : W) (D : Int × List Sm × W) (hD : D = decO b) (hd : isD σ i b) (hb : Below σ1 σ) (hi : σ1.next ≤ i) (hbl : b.length ≤ 1000000) :
    ACalls (E.pn (pb σ1 D.1)) 76 [.rp i 0 0 0] σ fun r s => D.1 = 0 ∧ r = objV D.2.1 D.2.2 ∧ Below σ1 s := by
  have hd0 := hd
  unfold isD at hd0
  refine ACalls.enterA [2000040] Tryz.func76 rfl Tryz.ntmps76 Tryz.results76 hmE (by kernel_rfl) (by simp) fun hσ => ?_
  conv => arg 5; cbv
  have hlt := (hσ _ _ hd0).1
  have hb1 := hb.1
  have n0 : ¬ i = σ.next := by omega
  have n1 : ¬ i = σ.next + 1 := by omega
  have n2 : ¬ i = σ.next + 2 := by omega
  have m0 : ¬ σ.next = i := by omega
  have m1 : ¬ σ.next + 1 = i := by omega
  have m2 : ¬ σ.next + 2 = i := by omega
  simp [-thenK_normal]
  repeat (simp only [thenK_normal]; simp [-thenK_normal])
  refine (take_z σ1 D.1 _ i 4 4 rfl b (by simp [isD, n0]; exact hd0) (by repeat (first | exact hb | refine Below.put ?_ (by first | exact hi | omega) _ | refine Below.alloc ?_ _)) hi hbl (by omega) (fun h => by rw [hD, decO, if_pos h])).mono ?_
  rintro r s ⟨h4, rfl, rfl⟩
  simp [-thenK_normal, stD, n0, m0]
  have eM : b.take 4 ≠ [79, 66, 74, 49] → D.1 = 1 := fun h => by rw [hD, decO, if_neg (by omega), if_pos h]
  have e8 : b.take 4 = [79, 66, 74, 49] → b.length < 8 → D.1 = 2 := fun h h8 => by rw [hD, decO, if_neg (by omega), if_neg (by simpa using h), if_pos h8]
  have e65 : b.take 4 = [79, 66, 74, 49] → ¬ b.length < 8 → 65536 < num4 (b.drop 4) → D.1 = 12 := fun h h8 h6 => by rw [hD, decO, if_neg (by omega), if_neg (by simpa using h), if_neg h8, if_pos h6]
  have eD : b.take 4 = [79, 66, 74, 49] → ¬ b.length < 8 → ¬ 65536 < num4 (b.drop 4) → D = decS (num4 (b.drop 4)) (b.drop 8) [] := fun h h8 h6 => by rw [hD, decO, if_neg (by omega), if_neg (by simpa using h), if_neg h8, if_neg h6]
  clear hD
  refine (must_c (pb σ1 D.1) (List.take 4 b == [79, 66, 74, 49]) 1 _ fun h => ⟨by rw [eM (by simpa using h)], by rw [eM (by simpa using h)]; decide, (by repeat (first | exact hb | refine Below.put ?_ (by first | exact hi | omega) _ | refine Below.alloc ?_ _))⟩).mono ?_
  rintro r s ⟨hM, rfl⟩
  have hM : b.take 4 = [79, 66, 74, 49] := by simpa using hM
  simp [-thenK_normal]
  repeat (simp only [thenK_normal]; simp [-thenK_normal])
  have t4 : (b.drop 4).length = b.length - 4 := by simp
  refine (number_c σ1 D.1 _ i (b.drop 4) (by simp [isD]) (by repeat (first | exact hb | refine Below.put ?_ (by first | exact hi | omega) _ | refine Below.alloc ?_ _)) hi (by omega) (fun h => e8 hM (by omega))).mono ?_
  rintro r s ⟨h8, rfl, rfl⟩
  have h8 : ¬ b.length < 8 := by omega
  have hnl := num4_lt (b.drop 4)
  obtain ⟨n, hn⟩ : ∃ n, n = num4 (b.drop 4) := ⟨_, rfl⟩
  rw [← hn] at e65 eD hnl ⊢
  simp [-thenK_normal, stD]
  repeat (simp only [thenK_normal]; simp [-thenK_normal])
  refine (must_c (pb σ1 D.1) (decide ((n : Int) ≤ 65536)) 12 _ fun h => ⟨by rw [e65 hM h8 (by simp at h; omega)], by rw [e65 hM h8 (by simp at h; omega)]; decide, (by repeat (first | exact hb | refine Below.put ?_ (by first | exact hi | omega) _ | refine Below.alloc ?_ _))⟩).mono ?_
  rintro r s ⟨h6, rfl⟩
  have h6 : ¬ 65536 < n := by simp at h6; omega
  have eD := eD hM h8 h6
  clear e65 e8 eM
  simp [-thenK_normal]
  repeat (simp only [thenK_normal]; simp [-thenK_normal])
  have hτb : StoreBel ((((((σ.alloc (.arr 71 0 [.agg [.nl, .nl]])).set i (.arr 141 0 [.agg [.ps (List.drop 8 (List.map byteV b))]])).alloc (.arr 71 0 [.agg [.nl, .nl]])).alloc (.map [] [] 0)).alloc (.log 68 0)).set (σ.next + 1) (.arr 71 0 [.agg [.lg (σ.next + 3) [], .nl]])) := by
    refine StoreBel.set_obj ?_ (by simp) (by simp [ObjBel])
    refine StoreBel.alloc_log ?_ _ _
    refine StoreBel.alloc_obj ?_ (by simp [ObjBel])
    refine StoreBel.alloc_arr ?_ (by simp)
    refine StoreBel.set_obj ?_ (by simp; omega) ?_
    · exact StoreBel.alloc_arr hσ (by simp)
    · intro e he x hx
      simp at he; subst he; simp [AV.cells] at hx; subst hx
      exact .ps _ (fun a ha => by obtain ⟨c, _, rfl⟩ := List.mem_map.1 (List.mem_of_mem_drop ha); exact .c _)
  refine loopW.adopt1 (p := σ.next + 1) (T := 71) (g := 0) (cs := [.nl, .nl]) (cs' := [.lg (σ.next + 3) [], .nl]) 68 (by simp [n1, m1]) (by simp [cellsAs]) ?_
  refine loop_e hmE (by kernel_rfl) (0, b.drop 8, [], _) (fun x : Nat × W × List Sm × Store => [(19, intV x.1)]) (fun x => x.2.2.2)
    (fun x => x.1 ≤ n ∧ StoreBel x.2.2.2 ∧ σ.next + 4 ≤ x.2.2.2.next ∧ isD x.2.2.2 i x.2.1 ∧ x.2.2.2.get σ.next = some (.arr 71 0 [.agg [.nl, .nl]]) ∧ x.2.2.2.get (σ.next + 1) = some (.arr 71 0 [.agg [.lg (σ.next + 3) (x.2.2.1.map symV), .nl]]) ∧
      x.2.2.2.get (σ.next + 2) = some (seenO x.2.2.1) ∧ x.2.2.2.get (σ.next + 3) = some (.log 68 x.2.2.1.length) ∧ (∀ k, k < σ.next → k ≠ i → x.2.2.2.get k = σ.get k) ∧ D = decS (n - x.1) x.2.1 x.2.2.1 ∧ x.2.1.length ≤ 1000000 ∧ x.2.2.1.length = x.1)
    (fun x => n - x.1) ⟨Nat.zero_le _, ?_, by simp, by simp [isD, n0, n1, n2, show ¬ i = σ.next + 3 by omega], by simp [m0, m1, show ¬ σ.next = σ.next + 3 by omega, show ¬ σ.next = σ.next + 1 + 2 by omega, show ¬ σ.next = σ.next + 2 by omega], by simp [n1, m1], by simp [n2, m2, seenO, entS], by simp [show ¬ σ.next + 3 = i by omega], ?_, eD, by simp; omega, rfl⟩ ?_ (Below.refl _) (by simp) ?_
  · exact hτb
  · intro k hk hki
    simp [hki, show ¬ k = σ.next by omega, show ¬ k = σ.next + 1 by omega, show ¬ k = σ.next + 2 by omega, show ¬ k = σ.next + 3 by omega]
  · rintro x ⟨x1, x2, x3, _⟩
    refine ⟨by omega, x2, ?_⟩
    simp
    omega
  · rintro ⟨j, bj, l, s⟩ ⟨x1, x2, x3, x4, x5, x6, x7, x8, x9, x10, x11, x12⟩
    simp only at x1 x2 x3 x4 x5 x6 x7 x8 x9 x10 x11 x12
    have hbs : Below σ1 s := ⟨by omega, fun k hk => by rw [x9 k (by omega) (by omega)]; exact hb.2 k hk⟩
    have si : i < s.next := by omega
    have p0 : ¬ σ.next = s.next := by omega
    have p1 : ¬ σ.next + 1 = s.next := by omega
    have p2 : ¬ σ.next + 2 = s.next := by omega
    have p3 : ¬ σ.next + 3 = s.next := by omega
    have q0 : ¬ s.next = σ.next := by omega
    have q1 : ¬ s.next = σ.next + 1 := by omega
    have q2 : ¬ s.next = σ.next + 2 := by omega
    have q3 : ¬ s.next = σ.next + 3 := by omega
    have m3 : ¬ σ.next + 3 = i := by omega
    have n3 : ¬ i = σ.next + 3 := by omega
    have is : ¬ i = s.next := by omega
    have si' : ¬ s.next = i := by omega
    have ll : l.length ≤ 65536 := by omega
    simp only [isD] at x4
    by_cases hj : j < n
    · have hjz : ((j : Int) < n) = True := by simp; omega
      simp [-thenK_normal, hj]
      repeat (simp only [thenK_normal]; simp [-thenK_normal, hj])
      rw [show n - j = (n - (j + 1)) + 1 by omega, decS] at x10
      refine (symbol_c σ1 D.1 s i bj (by simp only [isD]; exact x4) hbs hi x11 (fun h => by rw [x10, if_pos h])).mono ?_
      rintro r s' ⟨q10, rfl, rfl⟩
      rw [if_neg (by omega)] at x10
      have y1 : (symAt bj).name.length ≤ 1000000 := by simp [symAt]; omega
      have y2 : (symAt bj).align < 9223372036854775808 := by have := num4_lt (bj.drop 5); simp [symAt]; omega
      obtain ⟨y, hy⟩ : ∃ y, y = symAt bj := ⟨_, rfl⟩
      obtain ⟨b2, hb2⟩ : ∃ b2, b2 = bj.drop (10 + (bj.getD 9 0).toNat) := ⟨_, rfl⟩
      have lb2 : b2.length ≤ 1000000 := by rw [hb2]; simp; omega
      rw [← hy, ← hb2] at x10
      rw [← hy] at y1 y2
      rw [← hy, ← hb2]
      clear hy hb2 q10
      simp [-thenK_normal, stD]
      repeat (simp only [thenK_normal]; simp [-thenK_normal])
      have hv := (ovalid_p y y1 y2).pn (p := pb σ1 D.1) hpE
      cases hok : okS y with
      | false =>
        rw [hok] at hv x10
        simp at hv x10
        refine Pur.call hv ?_
        simp [-thenK_normal]
        refine (must_c (pb σ1 D.1) false 12 _ fun _ => ⟨by rw [x10], by rw [x10]; decide, by repeat (first | exact hbs | refine Below.put ?_ (by omega) _ | refine Below.alloc ?_ _)⟩).mono ?_
        rintro r s' ⟨h, _⟩
        cases h
      | true =>
        rw [hok] at hv x10
        simp only [Bool.true_and] at x10
        simp at hv
        refine Pur.call hv ?_
        cases hs : hasS l y.name with
        | true =>
          rw [hs] at x10
          simp at x10
          obtain ⟨k, hk⟩ := seen_yes l y.name hs
          simp [-thenK_normal, x7, seenO, hk, tz_bool, m2, show ¬ σ.next + 2 = s.next by omega]
          refine ⟨fun a b h => seen_key l (a, b) h, ?_⟩
          refine (must_c (pb σ1 D.1) false 12 _ fun _ => ⟨by rw [x10], by rw [x10]; decide, by repeat (first | exact hbs | refine Below.put ?_ (by omega) _ | refine Below.alloc ?_ _)⟩).mono ?_
          rintro r s' ⟨h, _⟩
          cases h
        | false =>
          rw [hs] at x10
          simp at x10
          have hk := seen_no l y.name hs
          simp [-thenK_normal, x7, seenO, hk, tz_bool, m2, show ¬ σ.next + 2 = s.next by omega]
          refine ⟨fun a b h => seen_key l (a, b) h, ?_⟩
          refine (must_c (pb σ1 D.1) true 12 _ fun h => (by cases h)).mono ?_
          rintro r s' ⟨_, rfl⟩
          simp [-thenK_normal, x6, x7, x8, seenO, hk, m1, m2, m3, n1, n2, n3, p1, p2, p3, q1, q2, q3, is, si']
          repeat (simp only [thenK_normal]; simp [-thenK_normal, x6, x7, x8, seenO, hk, m1, m2, m3, n1, n2, n3, p1, p2, p3, q1, q2, q3, is, si'])
          refine ⟨fun a b h => seen_key l (a, b) h, ?_⟩
          refine ⟨by omega, by omega, j + 1, b2, l ++ [y], _, ⟨⟨hj, ?_, ?_, ?_, ?_, ?_, ?_, ?_, ?_, x10, lb2, by simp; omega⟩, by omega⟩, Below.refl _, wrap_succ hj (by omega)⟩
          · refine StoreBel.set_obj (StoreBel.set_obj (StoreBel.set_obj (StoreBel.alloc_arr (StoreBel.set_obj x2 si ?_) (by simp)) (by simp; omega) ?_) (by simp; omega) ?_) (by simp; omega) trivial
            · intro e he x hx
              simp at he; subst he; simp [AV.cells] at hx; subst hx
              exact .ps _ (fun a ha => by obtain ⟨c, _, rfl⟩ := List.mem_map.1 ha; exact .c _)
            · intro e he x hx
              simp at he; subst he; simp [AV.cells] at hx
              rcases hx with rfl | rfl
              · refine .lg _ _ (by simp; omega) fun a ha => ?_
                rcases List.mem_append.1 ha with ha | ha
                · obtain ⟨v, _, rfl⟩ := List.mem_map.1 ha; simp
                · rw [List.mem_singleton.1 ha]; simp
              · exact .nl
            · intro en hen
              rcases List.mem_append.1 hen with hen | hen
              · obtain ⟨v, _, rfl⟩ := List.mem_map.1 hen; exact .c _
              · rw [List.mem_singleton.1 hen]; exact .c _
          · simp; omega
          · simp [isD, n1, n2, n3, is]
          · simp [x5, m0, p0, show ¬ σ.next = σ.next + 1 by omega, show ¬ σ.next = σ.next + 2 by omega, show ¬ σ.next = σ.next + 3 by omega]
          · simp [m1, p1, show ¬ σ.next + 1 = σ.next + 2 by omega, show ¬ σ.next + 1 = σ.next + 3 by omega]
          · simp [entS, List.range_succ, show ¬ σ.next + 2 = σ.next + 3 by omega]
          · simp
          · intro k hk hki
            simp [x9 k hk hki, hki, show ¬ k = σ.next + 1 by omega, show ¬ k = σ.next + 2 by omega, show ¬ k = σ.next + 3 by omega, show ¬ k = s.next by omega]
    · obtain rfl : j = n := by omega
      rw [Nat.sub_self, decS] at x10
      simp [-thenK_normal]
      repeat (simp only [thenK_normal]; simp [-thenK_normal, x4])
      have hcl := (clone_p bj (by omega)).pn (p := pb σ1 D.1) hpE
      refine Pur.call hcl ?_
      simp [-thenK_normal, x5, x6, p0, p1, show ¬ σ.next + 1 = σ.next by omega]
      repeat (simp only [thenK_normal]; simp [-thenK_normal, x5, x6, p0, p1, show ¬ σ.next + 1 = σ.next by omega, show ¬ σ.next = σ.next + 1 by omega])
      have hfz : frz (AV.agg [AV.lg (σ.next + 3) (List.map symV l), AV.ps (List.map byteV bj)]) = objV l bj := by
        have e : frzL (l.map symV) = l.map symV := by rw [frzL_map]; exact List.map_congr_left fun x _ => by simp
        simp [objV, e]
      refine ⟨objV l bj, stD σ i bj, ⟨by simp, by simp; omega, fun k o ho => ?_, .inr (stD_bel hσ hlt bj)⟩, hfz ▸ sr_frz _ _ _, .inr ?_, by rw [x10]; exact ⟨rfl, rfl, stD_below hb hi bj⟩⟩
      · have hk := (stD_bel hσ hlt bj k o ho).1
        simp at hk
        simp [show ¬ k = σ.next by omega, show ¬ k = σ.next + 1 by omega]
        by_cases hki : k = i
        · subst hki; simp [stD] at ho; rw [x4]; simp [← ho]
        · simp [stD, hki] at ho; rw [x9 k hk hki]; exact ho
      · simp [objV]
end Go.Proofs.YtcjdagpadnahfaaGreatDoor
