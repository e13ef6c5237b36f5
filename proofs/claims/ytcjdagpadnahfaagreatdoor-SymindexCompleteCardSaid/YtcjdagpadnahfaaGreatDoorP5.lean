/- The lines of a table of names. No condition. -/
import Derived.Test.YtcjdagpadnahfaaGreatDoorP4
set_option linter.unusedVariables false
set_option linter.unusedSimpArgs false
set_option linter.unnecessarySimpa false
namespace Go.Proofs.YtcjdagpadnahfaaGreatDoor
open Go Go.AW
set_option maxRecDepth 100000
set_option maxHeartbeats 8000000

theorem hmM (m : Int) : (EM m).P.follows .mixedOrders = true := hmE
theorem index_eol : ∀ t : W, Lib.index t [47, 10] = match eol t with | some n => (n : Int) | none => -1
  | [] => rfl
  | c :: t => by
    have ih := index_eol t
    have hp : List.isPrefixOf [47, 10] (c :: t) = decide (c = 47 ∧ t.head? = some 10) := by
      cases t with
      | nil => simp [List.isPrefixOf]
      | cons d t =>
        rw [Bool.eq_iff_iff]
        simp [List.isPrefixOf]
        exact ⟨fun ⟨a, b⟩ => ⟨a.symm, b.symm⟩, fun ⟨a, b⟩ => ⟨a.symm, b.symm⟩⟩
    rw [Lib.index, eol, hp]
    by_cases hc : c = 47 ∧ t.head? = some 10
    · rw [if_pos (by simpa using hc), if_pos hc]; rfl
    · rw [if_neg (by simpa using hc), if_neg hc, ih]
      cases eol t with
      | none => rfl
      | some n =>
        simp
def linesF (t : W) : AV := .fn (.func 141) [] [.pp [bytes t]]
theorem lines_p (m : Int) (t : W) : Pur (EM m) 115 [bytes t] (linesF t) := by
  intro σ
  refine ACalls.frzFn (e := bytes t) (T := 23) (by simp [AV.cells]) ?_
  refine ACalls.enterA [] Tryz.func115 rfl Tryz.ntmps115 Tryz.results115 hmE (by kernel_rfl) (by simp) fun hσ => ?_
  conv => arg 5; cbv
  simp
  exact Fin.same (by simp) ⟨rfl, rfl⟩
theorem linG_none {t : W} {a : Nat} (h : t ≠ []) (he : eol t = none) : linG t.length t a = [(a, t ++ [47])] := by
  obtain ⟨k, hk⟩ : ∃ k, t.length = k + 1 := ⟨t.length - 1, by have := List.length_pos_iff.2 h; omega⟩
  rw [hk, linG, if_neg h, he]
theorem linG_some {t : W} {a n : Nat} (h : t ≠ []) (he : eol t = some n) : linG t.length t a = (a, t.take n) :: linG (t.drop (n + 2)).length (t.drop (n + 2)) (a + n + 2) := by
  obtain ⟨k, hk⟩ : ∃ k, t.length = k + 1 := ⟨t.length - 1, by have := List.length_pos_iff.2 h; omega⟩
  rw [hk, linG, if_neg h, he]
  simp only
  rw [linG_fuel k (t.drop (n + 2)).length _ _ (by simp; omega) (Nat.le_refl _)]
theorem isByte (t : W) (i : Nat) : ∀ a ∈ List.drop i (List.map byteV t), (match a with | AV.c (Value.int IntKind.u8 n) => true | x => false) = true := by
  intro a ha
  obtain ⟨x, _, rfl⟩ := List.mem_map.1 (List.mem_of_mem_drop ha)
  rfl
theorem isByte2 (t : W) (i j : Nat) : ∀ a ∈ List.drop i (List.take j (List.map byteV t)), (match a with | AV.c (Value.int IntKind.u8 n) => true | x => false) = true := by
  intro a ha
  obtain ⟨x, _, rfl⟩ := List.mem_map.1 (List.mem_of_mem_take (List.mem_of_mem_drop ha))
  rfl
theorem drop_cons {α : Type} {l : List α} {j : Nat} {p : α} {r : List α} (h : l.drop j = p :: r) : l[j]? = some p ∧ l.drop (j + 1) = r := by
  refine ⟨?_, ?_⟩
  · have := congrArg (·[0]?) h
    simpa using this
  · rw [← List.drop_drop, h]; rfl
def itemL (p : Nat × W) : List AV := [intV p.1, str p.2]
theorem lines_it (m : Int) (t : W) (ht : t.length ≤ 1000000000) : Iter (EM m) 141 [.pp [bytes t]] ((lins t).map itemL) := by
  intro b σ I Out hI hO h0 hy
  refine ACalls.enterA [1000012] Tryz.func141 rfl Tryz.ntmps141 Tryz.results141 hmE (by kernel_rfl) (by simp) fun hσ => ?_
  conv => arg 5; cbv
  simp
  refine loop_e (hmM m) (by kernel_rfl) (0, 0, σ) (fun x : Nat × Nat × Store => [(3, intV x.2.1)]) (fun x => x.2.2) (fun x => x.2.1 ≤ t.length ∧ linG (t.drop x.2.1).length (t.drop x.2.1) x.2.1 = (lins t).drop x.1 ∧ x.1 ≤ (lins t).length ∧ I x.1 x.2.2 ∧ StoreBel x.2.2) (fun x => t.length - x.2.1) ⟨by simp, by simp [lins], by simp, h0, hσ⟩ (fun x hx => ⟨hI _ _ hx.2.2.2.1, hx.2.2.2.2, by simp⟩) (Below.refl _) (by simp) ?_
  rintro ⟨j, a, s⟩ ⟨h1, h2, h5, h3, h4⟩
  simp only at h1 h2 h3 h4 h5
  have hrl : (t.drop a).length = t.length - a := by simp
  simp
  refine ⟨fun h => ?_, fun h => ?_⟩
  · have hne : t.drop a ≠ [] := by intro e; rw [e] at hrl; simp at hrl; omega
    have hX := BIndex_p m (t.drop a) [47, 10] hne (by simp) (by omega) (by simp)
    rw [index_eol] at hX
    simp at hX
    refine ⟨h1, ?_⟩
    refine Pur.call hX ?_
    cases he : eol (t.drop a) with
    | none =>
      rw [linG_none hne he] at h2
      obtain ⟨k1, k2⟩ := drop_cons h2.symm
      have hlen : (lins t).length = j + 1 := by
        have := congrArg List.length h2
        simp at this; omega
      have hyy := AYield.bel (hy j (itemL (a, t.drop a ++ [47])) s (by rw [List.getElem?_map, k1]; rfl) h3)
      simp [itemL] at hyy
      simp [show t.length ≤ 9223372036854775806 + a by omega]
      refine ⟨h1, isByte t a, ?_⟩
      refine hyy.mono ?_
      rintro r s' ⟨⟨rfl, hI'⟩ | ⟨rfl, ho⟩, hb'⟩
      · simp
        rw [← hlen] at hI'
        exact Fin.same (hI _ _ hI') (.inl (by simpa using hI'))
      · simp
        exact Fin.same (hO _ ho) (.inr ho)
    | some n =>
      rw [linG_some hne he] at h2
      obtain ⟨k1, k2⟩ := drop_cons h2.symm
      obtain ⟨e1, _⟩ := eol_some he
      have hyy := AYield.bel (hy j (itemL (a, (t.drop a).take n)) s (by rw [List.getElem?_map, k1]; rfl) h3)
      simp [itemL] at hyy
      have w1 : IntKind.i64.wrap ((a : Int) + (n : Int)) = (a : Int) + n := wrap64_id (by omega) (by omega)
      have w2 : IntKind.i64.wrap ((n : Int) + 2) = (n : Int) + 2 := wrap64_id (by omega) (by omega)
      have w3 : IntKind.i64.wrap ((a : Int) + ((n : Int) + 2)) = ((a + n + 2 : Nat) : Int) := (wrap64_id (by omega) (by omega)).trans (by omega)
      have w4 : ((a : Int) + (n : Int)).toNat = a + n := by omega
      have hD : List.drop a (List.take (a + n) t) = (t.drop a).take n := by rw [List.drop_take]; congr 1; omega
      simp [w1, w4, hD, show ¬ ((n : Int) < 0) by omega]
      refine ⟨by omega, by omega, isByte2 t a (a + n), ?_⟩
      refine hyy.mono ?_
      rintro r s' ⟨⟨rfl, hI'⟩ | ⟨rfl, ho⟩, hb'⟩
      · simp [w2, w3]
        refine ⟨j + 1, a + n + 2, s', ⟨⟨by omega, ?_, ?_, hI', hb'⟩, by omega⟩, Below.refl _, by omega⟩
        · rw [k2, List.drop_drop, show a + (n + 2) = a + n + 2 by omega]
          exact linG_fuel _ _ _ _ (by simp) (by simp)
        · exact (List.getElem?_eq_some_iff.1 k1).1
      · simp
        exact Fin.same (hO _ ho) (.inr ho)
  · have hd : t.drop a = [] := List.drop_eq_nil_of_le h
    rw [hd] at h2
    have hlen : (lins t).length ≤ j := by
      have := congrArg List.length h2
      simp [linG] at this; omega
    have : j = (lins t).length := by omega
    subst this
    exact Fin.same (hI _ _ h3) (.inl h3)
/-- The lines so far are all names. -/
theorem entE_bad {t : W} {j : Nat} {p : Nat × W} (h : (lins t)[j]? = some p) (hv : validN p.2 = false) : entE t = 7 ∧ tentL t = [] := by
  have : entE t = 7 := by
    rw [entE, if_neg]
    intro hall
    have := List.all_eq_true.1 hall p (List.mem_of_getElem? h)
    rw [hv] at this; cases this
  exact ⟨this, by rw [tentL, if_neg (by omega)]⟩
theorem entE_ok {t : W} (h : ∀ p ∈ lins t, validN p.2 = true) : entE t = 0 ∧ tentL t = (lins t).map Prod.snd := by
  have : entE t = 0 := by rw [entE, if_pos (List.all_eq_true.2 h)]
  exact ⟨this, by rw [tentL, if_pos this]⟩
theorem linG_len : ∀ (k : Nat) (t : W) (a : Nat), (linG k t a).length ≤ t.length ∧ ∀ p ∈ linG k t a, p.1 ≤ a + t.length ∧ p.2.length ≤ t.length + 1
  | 0, t, a => by simp [linG]
  | k + 1, t, a => by
    rw [linG]
    split
    · simp
    · rename_i hne
      have hp := List.length_pos_iff.2 hne
      cases he : eol t with
      | none => simp; omega
      | some n =>
        obtain ⟨e1, _⟩ := eol_some he
        obtain ⟨h1, h2⟩ := linG_len k (t.drop (n + 2)) (a + n + 2)
        simp at h1
        refine ⟨by simp; omega, fun p hp => ?_⟩
        rcases List.mem_cons.1 hp with rfl | hp
        · simp; omega
        · have := h2 p hp
          simp at this
          omega
theorem lins_fine (t : W) : (lins t).length ≤ t.length ∧ ∀ p ∈ lins t, p.1 ≤ t.length ∧ p.2.length ≤ t.length + 1 := by
  obtain ⟨h1, h2⟩ := linG_len t.length t 0
  exact ⟨h1, fun p hp => by have := h2 p hp; omega⟩
def lnV (p : Nat × W) : AV := str p.2
def stE (σ : Store) (t : W) (j : Nat) : Store := ((((σ.alloc (.arr 40 0 [.nl])).alloc (.arr 30 0 [intV 0])).alloc (.arr 40 0 [.nl])).alloc (.log 9 ((lins t).take j).length)).set (σ.next + 2) (.arr 40 0 [.lg (σ.next + 3) (((lins t).take j).map lnV)])
@[simp] theorem stE_next (σ : Store) (t : W) (j : Nat) : (stE σ t j).next = σ.next + 4 := by simp [stE]
@[simp] theorem stE_2 (σ : Store) (t : W) (j : Nat) : (stE σ t j).get (σ.next + 2) = some (.arr 40 0 [.lg (σ.next + 3) (((lins t).take j).map lnV)]) := by simp [stE]
@[simp] theorem stE_3 (σ : Store) (t : W) (j : Nat) : (stE σ t j).get (σ.next + 3) = some (.log 9 ((lins t).take j).length) := by simp [stE]
@[simp] theorem stE_1 (σ : Store) (t : W) (j : Nat) : (stE σ t j).get (σ.next + 1) = some (.arr 30 0 [intV 0]) := by simp [stE]
@[simp] theorem stE_0 (σ : Store) (t : W) (j : Nat) : (stE σ t j).get σ.next = some (.arr 40 0 [.nl]) := by simp [stE, show ¬ σ.next = σ.next + 2 by omega, show ¬ σ.next = σ.next + 3 by omega]
theorem stE_bel {σ : Store} (hσ : StoreBel σ) (t : W) (j : Nat) : StoreBel (stE σ t j) := by
  refine StoreBel.set_obj (StoreBel.alloc_log (StoreBel.alloc_arr (StoreBel.alloc_arr (StoreBel.alloc_arr hσ (by simp)) (by simp)) (by simp)) _ _) (by simp) ?_
  intro e he x hx
  simp at he; subst he; simp [AV.cells] at hx; subst hx
  exact .lg _ _ (by simp) (by simp [lnV])
theorem stE_below (σ : Store) (t : W) (j : Nat) : Below σ (stE σ t j) := by
  refine ⟨by simp, fun k hk => ?_⟩
  simp [stE, show ¬ k = σ.next by omega, show ¬ k = σ.next + 1 by omega, show ¬ k = σ.next + 2 by omega, show ¬ k = σ.next + 3 by omega]
theorem Entries_p (m : Int) (t : W) (ht : t.length ≤ 900000) : Pur (EM m) 87 [bytes t] (.tup [strs (tentL t), intV (entE t)]) := by
  refine Pur.enter [] Tryz.func87 rfl Tryz.ntmps87 Tryz.results87 hmE (by kernel_rfl) (by simp) (by simp) fun σ hσ => ?_
  conv => arg 5; cbv
  simp
  refine Pur.call (lines_p m t) ?_
  simp [linesF]
  obtain ⟨l1, l2⟩ := lins_fine t
  refine rangeW.adopt0 (p := σ.next + 2) (T := 40) (k := 0) 9 (by simp) ?_
  refine range_itP (hmM m) (by kernel_rfl) (by kernel_rfl) (by kernel_rfl) (by kernel_rfl) (EM_pan m) (lines_it m t (by omega)) (by kernel_rfl) (by kernel_rfl) (by simp) (by intro x hx; obtain ⟨p, _, rfl⟩ := List.mem_map.1 hx; rfl) (stE σ t) (fun j => ∀ p ∈ (lins t).take j, validN p.2 = true) (by simp) ?_ ?_ ?_ ?_ ?_
  · simp [stE]
  · intro j; simp
  · intro hb j hj; exact stE_bel hσ t j
  · intro j args X Y hj hP
    obtain ⟨p, hp, rfl⟩ := Option.map_eq_some_iff.1 (by rw [List.getElem?_map] at hj; exact hj)
    have hpm := List.mem_of_getElem? hp
    have hpl := l2 p hpm
    simp [itemL]
    refine Pur.call (lift m (Valid_p p.2 (by omega))) ?_
    cases hv : validN p.2 with
    | false =>
      obtain ⟨q1, q2⟩ := entE_bad hp hv
      simp [q1, q2]
      refine ⟨((stE σ t j).set σ.next (.arr 40 0 [.nl])).set (σ.next + 1) (.arr 30 0 [intV 7]), by simp, ?_, Below.refl _, fun Z => ?_⟩
      · exact StoreBel.set_obj (StoreBel.set_obj (stE_bel hσ t j) (by simp) (by intro e he x hx; simp at he; subst he; simp [AV.cells] at hx; subst hx; exact .nl)) (by simp) (by intro e he x hx; simp at he; subst he; simp [AV.cells] at hx; subst hx; exact .c _)
      · simp [stE_below]
    | true =>
      simp
      have e1 : ((lins t).take (j + 1)).map lnV = List.take j (List.map lnV (lins t)) ++ [str p.2] := by rw [List.take_add_one, hp]; simp [lnV]
      have hjl := (List.getElem?_eq_some_iff.1 hp).1
      have e2 : ((lins t).take (j + 1)).length = min j (lins t).length + 1 := by simp; omega
      refine ⟨by omega, by omega, ⟨by simp, fun k hk => ?_⟩, fun a b hab => ?_⟩
      · have hs : stE σ t (j + 1) = stE σ t (j + 1) := rfl
        simp only [stE, e1, e2]
        simp only [set_get, alloc_get, set_next, alloc_next]
        by_cases g3 : k = σ.next + 3
        · simp [g3]
        · by_cases g2 : k = σ.next + 2
          · simp [g2, lnV]
          · simp [g3, g2]
      · rw [List.take_add_one, hp] at hab
        simp at hab
        rcases hab with hab | rfl
        · exact hP _ hab
        · exact hv
  · intro hP Z
    simp at hP
    obtain ⟨q1, q2⟩ := entE_ok (t := t) fun p hp => hP p.1 p.2 hp
    simp [q1, q2]
    exact ⟨fun a b _ => by simp [lnV], stE_below _ _ _⟩
/-- The first line at a place. -/
theorem look_none {l : List (Nat × W)} {n j : Nat} {p : Nat × W} (hno : ∀ q ∈ l.take j, q.1 ≠ n) (hp : l[j]? = some p) (h : p.1 = n) : lookP l n = some p.2 := by
  have : l.find? (fun q => q.1 == n) = some p := by
    rw [List.find?_eq_some_iff_getElem]
    have hj := (List.getElem?_eq_some_iff.1 hp)
    refine ⟨by simpa using h, j, hj.1, hj.2, fun i hi => ?_⟩
    have hil : i < l.length := by have := hj.1; omega
    have := hno l[i] (List.mem_iff_getElem?.2 ⟨i, by simp [List.getElem?_take, hi]⟩)
    simpa using this
  rw [lookP, this]; rfl
theorem look_nil {l : List (Nat × W)} {n : Nat} (hno : ∀ q ∈ l, q.1 ≠ n) : lookP l n = none := by
  have : l.find? (fun q => q.1 == n) = none := by
    rw [List.find?_eq_none]
    intro q hq
    simpa using hno q hq
  rw [lookP, this]; rfl
def stR (σ : Store) (n : Int) : Store := ((σ.alloc (.arr 9 0 [str []])).alloc (.arr 30 0 [intV 0])).alloc (.arr 3 0 [intV n])
@[simp] theorem stR_next (σ : Store) (n : Int) : (stR σ n).next = σ.next + 3 := by simp [stR]
@[simp] theorem stR_0 (σ : Store) (n : Int) : (stR σ n).get σ.next = some (.arr 9 0 [str []]) := by simp [stR, show ¬ σ.next = σ.next + 2 by omega]
@[simp] theorem stR_1 (σ : Store) (n : Int) : (stR σ n).get (σ.next + 1) = some (.arr 30 0 [intV 0]) := by simp [stR]
@[simp] theorem stR_2 (σ : Store) (n : Int) : (stR σ n).get (σ.next + 2) = some (.arr 3 0 [intV n]) := by simp [stR]
theorem stR_below (σ : Store) (n : Int) : Below σ (stR σ n) := (((Below.refl σ).alloc _).alloc _).alloc _
theorem Resolve_p (m : Int) (f t : W) (hf : f.length ≤ 1000) (ht : t.length ≤ 900000) : Pur (EM m) 88 [str f, bytes t] (.tup [str (rslN f t), intV (rslE f t)]) := by
  have hcl : (cutL f 47).length ≤ 1000 := by
    unfold cutL
    split
    · simp; omega
    · exact hf
  have h1 := lift m (CutSuffix_p f 47 (by omega))
  have h2 := lift m (Short_p (cutL f 47) (by omega))
  have h3 := lift m (CutPrefix_p f 47)
  simp at h1 h2 h3
  refine Pur.enter [] Tryz.func88 rfl Tryz.ntmps88 Tryz.results88 hmE (by kernel_rfl) (by simp) (by simp) fun σ hσ => ?_
  conv => arg 5; cbv
  simp
  refine Pur.call h1 ?_
  by_cases hl : f.getLast? = some 47
  · have hc : cutL f 47 = f.dropLast := by simp [cutL, hl]
    rw [hc] at h2
    simp [hl, hc]
    refine Pur.call h2 ?_
    cases hs : shortN f.dropLast with
    | true =>
      have hr : rsl f t = some f.dropLast := by rw [rsl, if_pos ⟨hl, hs⟩]
      simp [rslE, rslN, hr]
    | false =>
      have hno : ¬ (f.getLast? = some 47 ∧ shortN f.dropLast = true) := by simp [hs]
      simp
      --S1
      have hr : rsl f t = if f.head? = some 47 ∧ f.tail.length ≤ 15 ∧ f.tail.contains 32 = false ∧ prsE f.tail 10 = 0 then lookP (lins t) (prsN f.tail 10) else none := by rw [rsl, if_neg hno]
      have hdl : f.tail.length ≤ 1000 := by simp; omega
      obtain ⟨d, hd⟩ : ∃ d, d = f.tail := ⟨_, rfl⟩
      rw [← hd] at hr h3 hdl
      refine Pur.call h3 ?_
      by_cases hh : f.head? = some 47
      · have h4 := lift m (ContC_p d 32)
        have h5 := lift m (Parse_p d 10 (by omega))
        simp at h4 h5
        simp only [hh, true_and] at hr
        simp [hh]
        by_cases h15 : d.length ≤ 15
        · refine ⟨fun h => by omega, fun _ => ?_⟩
          refine Pur.call h4 ?_
          by_cases h32 : 32 ∈ d
          · have hn : rsl f t = none := by rw [hr, if_neg (fun h => by have := h.2.1; simp [h32] at this)]
            simp [h32, rslE, rslN, hn]
          · simp [h32]
            have hb2 : d.length ≤ 140737488355328 := by omega
            refine ⟨by omega, ?_⟩
            refine Pur.call h5 ?_
            simp [prsV]
            refine ⟨fun he => ?_, fun he => ?_⟩
            · have hn : rsl f t = none := by rw [hr, if_neg (fun h => he h.2.2)]
              simp [rslE, rslN, hn]
            have hr2 : rsl f t = lookP (lins t) (prsN d 10) := by rw [hr, if_pos ⟨h15, by simpa using h32, he⟩]
            have hL := lines_p m t
            simp [linesF] at hL
            obtain ⟨l1, l2⟩ := lins_fine t
            refine Pur.call hL ?_
            simp
            generalize prsN d 10 = n at *
            refine range_itP (hmM m) (by kernel_rfl) (by kernel_rfl) (by kernel_rfl) (by kernel_rfl) (EM_pan m) (lines_it m t (by omega)) (by kernel_rfl) (by kernel_rfl) (by simp) (by intro x hx; obtain ⟨p, _, rfl⟩ := List.mem_map.1 hx; rfl) (fun _ => stR σ n) (fun j => ∀ q ∈ (lins t).take j, q.1 ≠ n) (by simp) (by simp [stR]) (by simp) (fun _ _ _ => ((hσ.alloc_arr (by simp)).alloc_arr (by simp)).alloc_arr (by simp)) ?_ ?_
            · intro j args X Y hj hP
              obtain ⟨p, hp, rfl⟩ := Option.map_eq_some_iff.1 (by rw [List.getElem?_map] at hj; exact hj)
              simp [itemL]
              refine ⟨fun e => ?_, fun e a b hab => ?_⟩
              · have hn : rsl f t = some p.2 := by rw [hr2, look_none hP hp (by omega)]
                refine ⟨((stR σ n).set σ.next (.arr 9 0 [str p.2])).set (σ.next + 1) (.arr 30 0 [intV 0]), by simp, ?_, Below.refl _, fun Z => ?_⟩
                · exact StoreBel.set_obj (StoreBel.set_obj (((hσ.alloc_arr (by simp)).alloc_arr (by simp)).alloc_arr (by simp)) (by simp; try omega) (by intro e he x hx; simp at he; subst he; simp [AV.cells] at hx; subst hx; exact .c _)) (by simp; try omega) (by intro e he x hx; simp at he; subst he; simp [AV.cells] at hx; subst hx; exact .c _)
                · simp [rslE, rslN, hn, stR_below]
              · rw [List.take_add_one, hp] at hab
                simp at hab
                rcases hab with hab | rfl
                · exact hP _ hab
                · intro h; exact e (by rw [h])
            · intro hP Z
              rw [List.take_of_length_le (by simp)] at hP
              have hn : rsl f t = none := by rw [hr2, look_nil hP]
              simp [rslE, rslN, hn, stR_below]
        · have hn : rsl f t = none := by rw [hr, if_neg (fun h => h15 h.1)]
          refine ⟨fun _ => by simp [rslE, rslN, hn], fun h => by omega⟩
      · have hn : rsl f t = none := by rw [hr, if_neg (fun h => hh h.1)]
        simp [hh, rslE, rslN, hn]
      --S1E
  · have hno : ¬ (f.getLast? = some 47 ∧ shortN f.dropLast = true) := fun h => hl h.1
    simp [hl]
    --S2
    have hr : rsl f t = if f.head? = some 47 ∧ f.tail.length ≤ 15 ∧ f.tail.contains 32 = false ∧ prsE f.tail 10 = 0 then lookP (lins t) (prsN f.tail 10) else none := by rw [rsl, if_neg hno]
    have hdl : f.tail.length ≤ 1000 := by simp; omega
    obtain ⟨d, hd⟩ : ∃ d, d = f.tail := ⟨_, rfl⟩
    rw [← hd] at hr h3 hdl
    refine Pur.call h3 ?_
    by_cases hh : f.head? = some 47
    · have h4 := lift m (ContC_p d 32)
      have h5 := lift m (Parse_p d 10 (by omega))
      simp at h4 h5
      simp only [hh, true_and] at hr
      simp [hh]
      by_cases h15 : d.length ≤ 15
      · refine ⟨fun h => by omega, fun _ => ?_⟩
        refine Pur.call h4 ?_
        by_cases h32 : 32 ∈ d
        · have hn : rsl f t = none := by rw [hr, if_neg (fun h => by have := h.2.1; simp [h32] at this)]
          simp [h32, rslE, rslN, hn]
        · simp [h32]
          have hb2 : d.length ≤ 140737488355328 := by omega
          refine ⟨by omega, ?_⟩
          refine Pur.call h5 ?_
          simp [prsV]
          refine ⟨fun he => ?_, fun he => ?_⟩
          · have hn : rsl f t = none := by rw [hr, if_neg (fun h => he h.2.2)]
            simp [rslE, rslN, hn]
          have hr2 : rsl f t = lookP (lins t) (prsN d 10) := by rw [hr, if_pos ⟨h15, by simpa using h32, he⟩]
          have hL := lines_p m t
          simp [linesF] at hL
          obtain ⟨l1, l2⟩ := lins_fine t
          refine Pur.call hL ?_
          simp
          generalize prsN d 10 = n at *
          refine range_itP (hmM m) (by kernel_rfl) (by kernel_rfl) (by kernel_rfl) (by kernel_rfl) (EM_pan m) (lines_it m t (by omega)) (by kernel_rfl) (by kernel_rfl) (by simp) (by intro x hx; obtain ⟨p, _, rfl⟩ := List.mem_map.1 hx; rfl) (fun _ => stR σ n) (fun j => ∀ q ∈ (lins t).take j, q.1 ≠ n) (by simp) (by simp [stR]) (by simp) (fun _ _ _ => ((hσ.alloc_arr (by simp)).alloc_arr (by simp)).alloc_arr (by simp)) ?_ ?_
          · intro j args X Y hj hP
            obtain ⟨p, hp, rfl⟩ := Option.map_eq_some_iff.1 (by rw [List.getElem?_map] at hj; exact hj)
            simp [itemL]
            refine ⟨fun e => ?_, fun e a b hab => ?_⟩
            · have hn : rsl f t = some p.2 := by rw [hr2, look_none hP hp (by omega)]
              refine ⟨((stR σ n).set σ.next (.arr 9 0 [str p.2])).set (σ.next + 1) (.arr 30 0 [intV 0]), by simp, ?_, Below.refl _, fun Z => ?_⟩
              · exact StoreBel.set_obj (StoreBel.set_obj (((hσ.alloc_arr (by simp)).alloc_arr (by simp)).alloc_arr (by simp)) (by simp; try omega) (by intro e he x hx; simp at he; subst he; simp [AV.cells] at hx; subst hx; exact .c _)) (by simp; try omega) (by intro e he x hx; simp at he; subst he; simp [AV.cells] at hx; subst hx; exact .c _)
              · simp [rslE, rslN, hn, stR_below]
            · rw [List.take_add_one, hp] at hab
              simp at hab
              rcases hab with hab | rfl
              · exact hP _ hab
              · intro h; exact e (by rw [h])
          · intro hP Z
            rw [List.take_of_length_le (by simp)] at hP
            have hn : rsl f t = none := by rw [hr2, look_nil hP]
            simp [rslE, rslN, hn, stR_below]
      · have hn : rsl f t = none := by rw [hr, if_neg (fun h => h15 h.1)]
        refine ⟨fun _ => by simp [rslE, rslN, hn], fun h => by omega⟩
    · have hn : rsl f t = none := by rw [hr, if_neg (fun h => hh h.1)]
      simp [hh, rslE, rslN, hn]
    --S2E
end Go.Proofs.YtcjdagpadnahfaaGreatDoor
