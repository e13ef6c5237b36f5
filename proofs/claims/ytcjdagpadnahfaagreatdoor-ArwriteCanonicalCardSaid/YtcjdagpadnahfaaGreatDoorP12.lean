/- Archives parsed by the reference. No condition. -/
import Derived.Test.YtcjdagpadnahfaaGreatDoorP11
set_option linter.unusedVariables false
set_option linter.unusedSimpArgs false
set_option linter.unnecessarySimpa false
namespace Go.Proofs.YtcjdagpadnahfaaGreatDoor
open Go Go.AW
set_option maxRecDepth 100000
set_option maxHeartbeats 8000000

def aO (i1 i2 : Nat) (x : PS) : AObj := .arr 60 0 [.agg [boolV x.hm, mpC x, .lg i1 (x.mem.map memV), .lg i2 (x.off.map intV)]]
def stQ (σ : Store) (x : PS) : Store := (((((σ.alloc (.arr 60 0 [.agg [boolV false, .nl, .nl, .nl]])).alloc (.arr 60 0 [.agg [boolV false, .nl, .nl, .nl]])).alloc (.log 46 x.mem.length)).alloc (.log 3 x.off.length))).set (σ.next + 1) (aO (σ.next + 2) (σ.next + 3) x)
@[simp] theorem stQ_next (σ : Store) (x : PS) : (stQ σ x).next = σ.next + 4 := by simp [stQ]
@[simp] theorem stQ_0 (σ : Store) (x : PS) : (stQ σ x).get σ.next = some (.arr 60 0 [.agg [boolV false, .nl, .nl, .nl]]) := by simp [stQ, show ¬ σ.next = σ.next + 2 by omega, show ¬ σ.next = σ.next + 3 by omega]
theorem stQ_1 (σ : Store) (x : PS) : (stQ σ x).get (σ.next + 1) = some (aO (σ.next + 2) (σ.next + 3) x) := by simp [stQ]
theorem stQ_2 (σ : Store) (x : PS) : (stQ σ x).get (σ.next + 2) = some (.log 46 x.mem.length) := by simp [stQ]
theorem stQ_3 (σ : Store) (x : PS) : (stQ σ x).get (σ.next + 3) = some (.log 3 x.off.length) := by simp [stQ]
theorem stQ_lt (σ : Store) (x : PS) (k : Nat) (h : k < σ.next) : (stQ σ x).get k = σ.get k := by simp [stQ, show ¬ k = σ.next by omega, show ¬ k = σ.next + 1 by omega, show ¬ k = σ.next + 2 by omega, show ¬ k = σ.next + 3 by omega]
theorem stQ_below (σ : Store) (x : PS) : Below σ (stQ σ x) := ⟨by simp, fun k hk => stQ_lt σ x k hk⟩
theorem stQ_bel {σ : Store} (hσ : StoreBel σ) (x : PS) : StoreBel (stQ σ x) := by
  refine StoreBel.set_obj (StoreBel.alloc_log (StoreBel.alloc_log (StoreBel.alloc_arr (StoreBel.alloc_arr hσ ?_) ?_) _ _) _ _) (by simp) ?_
  · intro e he y hy
    simp at he; subst he; simp [AV.cells] at hy
    rcases hy with rfl | rfl | rfl | rfl <;> first | exact .nl | exact .c _
  · intro e he y hy
    simp at he; subst he; simp [AV.cells] at hy
    rcases hy with rfl | rfl | rfl | rfl <;> first | exact .nl | exact .c _
  · intro e he y hy
    simp [aO] at he; subst he; simp [AV.cells] at hy
    rcases hy with rfl | rfl | rfl | rfl
    · exact .c _
    · unfold mpC; split
      · exact bel_bytes _ _
      · exact .nl
    · refine .lg _ _ (by simp) ?_
      intro a ha
      obtain ⟨v, _, rfl⟩ := List.mem_map.1 ha
      simp
    · refine .lg _ _ (by simp) ?_
      intro a ha
      obtain ⟨v, _, rfl⟩ := List.mem_map.1 ha
      exact .c _
theorem go_bad1 {B : W} {a : Nat} {x : PS} (hne : B ≠ []) (h : nxtE B ≠ 0) : go B.length B a x = (PS0, a, nxtE B) := by
  obtain ⟨k, hk⟩ : ∃ k, B.length = k + 1 := ⟨B.length - 1, by have := List.length_pos_iff.2 hne; omega⟩
  rw [hk, go, if_neg hne, if_pos h]
theorem go_bad2 {B : W} {a : Nat} {x : PS} (hne : B ≠ []) (h : nxtE B = 0) (h2 : addE (nxtH B) (nxtD B) x ≠ 0) : go B.length B a x = (PS0, a, addE (nxtH B) (nxtD B) x) := by
  obtain ⟨k, hk⟩ : ∃ k, B.length = k + 1 := ⟨B.length - 1, by have := List.length_pos_iff.2 hne; omega⟩
  rw [hk, go, if_neg hne, if_neg (by simp [h]), if_pos h2]
theorem go_ok {B : W} {a : Nat} {x : PS} (hne : B ≠ []) (h : nxtE B = 0) (h2 : addE (nxtH B) (nxtD B) x = 0) : go B.length B a x = go (B.drop (nxtN B)).length (B.drop (nxtN B)) (a + nxtN B) (addX a (nxtH B) (nxtD B) x) := by
  obtain ⟨k, hk⟩ : ∃ k, B.length = k + 1 := ⟨B.length - 1, by have := List.length_pos_iff.2 hne; omega⟩
  have hn := nxtN_pos h
  rw [hk, go, if_neg hne, if_neg (by simp [h]), if_neg (by simp [h2])]
  exact go_fuel _ _ _ _ _ (by simp; omega) (Nat.le_refl _)
theorem rIs_p (b : W) (hb : b.length ≤ 1000000000) : Pur E 56 [bytes b] (boolV (decide (b.take 8 = magic))) := by
  have hS := Same_p (b.take 8) magic (by simp; omega)
  simp at hS
  refine Pur.enter [] Tryz.func56 rfl Tryz.ntmps56 Tryz.results56 hmE (by kernel_rfl) (by simp) (by simp) fun σ hσ => ?_
  conv => arg 5; cbv
  simp
  refine ⟨fun h => ⟨h, ?_⟩, fun h e => ?_⟩
  · refine Pur.d Magic_p ?_
    simp
    refine ⟨h, ?_⟩
    refine Pur.d hS ?_
    simp
    rw [Bool.eq_iff_iff, beq_iff_eq, decide_eq_true_eq]
  · have := congrArg List.length e
    simp [magic] at this
    omega
theorem tbC_bel (n : Nat) (x : PS) : Bel n (tbC x) := by
  unfold tbC
  split
  · exact bel_bytes _ _
  · exact .nl
theorem kz_tbC (x : PS) : kz (tbC x) = tbC x := by
  unfold tbC
  split <;> simp
/-- What holds while an archive is read. -/
structure RI (b : W) (x : PS) (a : Nat) : Prop where
  le : a ≤ b.length
  ge : 8 ≤ a
  goes : prsG b = go (b.drop a).length (b.drop a) a x
  first : a = 8 ↔ (x.first = true ∧ x.hm = false)
  tab : entE x.tab = 0
  ok : x.ok a
theorem RI.step {b : W} {x : PS} {a : Nat} (hR : RI b x a) (hb : b.length ≤ 800000) (hal : a < b.length) (h0 : nxtE (b.drop a) = 0) (hE : addE (nxtH (b.drop a)) (nxtD (b.drop a)) x = 0) :
    RI b (addX a (nxtH (b.drop a)) (nxtD (b.drop a)) x) (a + nxtN (b.drop a)) := by
  obtain ⟨r1, r2, hgo, r4, r5, r6⟩ := hR
  have hrl : (b.drop a).length = b.length - a := by simp
  have hne : b.drop a ≠ [] := by intro e; rw [e] at hrl; simp at hrl; omega
  obtain ⟨p1, p2⟩ := nxtN_pos h0
  have hok := ok_add r6 (a, b.drop a) (by simp; omega)
  obtain ⟨o1, o2, o3, o4, o5⟩ := hok
  refine ⟨by omega, by omega, ?_, ?_, ?_, ⟨Nat.le_trans o1 (by omega), Nat.le_trans o2 (by omega), o3, o4, o5⟩⟩
  · rw [hgo, go_ok hne h0 hE, List.drop_drop]
  · refine ⟨fun h => by omega, fun ⟨h1, h2⟩ => ?_⟩
    exfalso
    unfold addX at h1 h2
    split at h2
    · cases h2
    · rename_i g1
      rw [if_neg g1] at h1
      split at h1
      · simp [PS.first] at h1
      · simp [PS.first] at h1
  · unfold addX
    split
    · exact r5
    · rename_i g1
      split
      · rename_i g2
        rw [addE, if_neg g1, if_pos g2] at hE
        split at hE
        · omega
        · rename_i g3
          simp at g3
          exact g3.1
      · exact r5
theorem rParse4_p (b : W) (hb : b.length ≤ 800000) : Pur E 29 [bytes b] (prsA (prsG b)) := by
  refine Pur.enter [7000060] Tryz.func29 rfl Tryz.ntmps29 Tryz.results29 hmE (by kernel_rfl) (by simp) (by simp) fun σ hσ => ?_
  conv => arg 5; cbv
  simp
  refine ⟨fun h => ?_, fun h => ?_⟩
  · have hp : prsG b = (PS0, 0, 2) := by rw [prsG, if_pos (by omega)]
    simp [hp, PS0]
  have hI := rIs_p b (by omega)
  simp at hI
  refine Pur.call hI ?_
  by_cases hm : b.take 8 = magic
  · simp [hm]
    refine loopW.adopt1 (p := σ.next + 1) (T := 60) (g := 0) (cs := [boolV false, .nl, .nl, .nl]) (cs' := [boolV false, .nl, .lg (σ.next + 2) [], .nl]) 46 (by simp) (by simp [cellsAs]) ?_
    refine loopW.adopt1 (p := σ.next + 1) (T := 60) (g := 0) (cs := [boolV false, .nl, .lg (σ.next + 2) [], .nl]) (cs' := [boolV false, .nl, .lg (σ.next + 2) [], .lg (σ.next + 3) []]) 3 (by simp) (by simp [cellsAs]) ?_
    have hg0 : prsG b = go (b.drop 8).length (b.drop 8) 8 PS0 := by
      rw [prsG, if_neg (by omega), if_neg (by simp [hm])]
      exact go_fuel _ _ _ _ _ (by simp) (Nat.le_refl _)
    refine loop_e hmE (by kernel_rfl) (PS0, 8) (fun y : PS × Nat => [(8, intV y.2), (6, tbC y.1), (7, boolV y.1.ht)]) (fun y => stQ σ y.1) (fun y => RI b y.1 y.2) (fun y => b.length - y.2) ⟨by omega, Nat.le_refl _, hg0, by simp [PS0, PS.first], rfl, ⟨Nat.zero_le _, Nat.zero_le _, by simp [PS0], fun _ => rfl, fun _ => rfl⟩⟩ (fun y hy => ⟨by simp, stQ_bel hσ _, by simp [tbC_bel]⟩) ?_ ?_ ?_
    · refine ⟨by simp, fun k hk => ?_⟩
      by_cases g1 : k = σ.next + 1
      · subst g1; simp [stQ, aO, mpC, PS0]
      · by_cases g2 : k = σ.next + 2
        · subst g2; simp [stQ, PS0]
        · by_cases g3 : k = σ.next + 3
          · subst g3; simp [stQ, PS0]
          · simp [stQ, g1, g2, g3]
    · simp [PS0, tbC]
    rintro ⟨x, a⟩ hR
    have hR0 := hR
    obtain ⟨r1, r2, hgo, r4, r5, r6⟩ := hR
    simp only at hR0
    simp only at r1 r2 hgo r4 r5 r6
    obtain ⟨o1, o2, o3, o4, o5⟩ := r6
    have hrl : (b.drop a).length = b.length - a := by simp
    have hgr : ∀ k, (b.drop a)[k]? = b[a + k]? := fun k => by rw [List.getElem?_drop]
    simp
    refine ⟨fun hal => ?_, fun hal => ?_⟩
    · obtain ⟨B, hB⟩ : ∃ B, B = b.drop a := ⟨_, rfl⟩
      have hne : B ≠ [] := by intro e; rw [← hB, e] at hrl; simp at hrl; omega
      rw [← hB] at hgo hrl hgr
      have hD := rDecode_p B (by omega)
      simp at hD
      have hdm : List.drop a (List.map byteV b) = B.map byteV := by rw [hB, List.map_drop]
      rw [hdm]
      refine ⟨r1, ?_⟩
      refine Pur.call hD ?_
      by_cases h0 : decE B = 0
      · obtain ⟨hs, hsz⟩ := dec_size h0
        obtain ⟨Z, hZ⟩ : ∃ Z, Z = szN B := ⟨_, rfl⟩
        rw [← hZ] at hs hsz
        have w1 : IntKind.i64.wrap ((a : Int) + 60) = ((a + 60 : Nat) : Int) := (wrap64_id (by omega) (by omega)).trans (by omega)
        have w2 : IntKind.i64.wrap (((a + 60 : Nat) : Int) + (Z : Int)) = ((a + 60 + Z : Nat) : Int) := (wrap64_id (by omega) (by omega)).trans (by omega)
        have n2 : B.length < 60 + Z + Z % 2 → nxtE B = 2 := fun h => by rw [nxtE, if_neg (by omega), if_pos (by omega)]
        by_cases hlen : b.length < a + 60 + Z
        · have hE := n2 (by omega)
          have hq := hgo.trans (go_bad1 hne (by omega))
          rw [hE] at hq
          generalize hY : a + 60 = Y at *
          generalize hX : Y + Z = X at *
          simp [h0, hs, w1, w2, show ((b.length : Int) < (X : Int)) by omega, hq, PS0, stQ_below]
        · have hR' := hR0.step hb hal
          rw [← hB] at hR'
          have ce : List.drop (a + 60) (List.take (a + 60 + Z) (List.map byteV b)) = (cutP B 60 Z).map byteV := by
            rw [← List.map_take, ← List.map_drop, List.drop_take, cutP, hB, List.drop_drop]
            congr 2
            omega
          have hcl : (cutP B 60 Z).length ≤ b.length := by simp [cutP]; omega
          have hgz := hgr (60 + Z)
          have n5 : ¬ B.length < 60 + Z + Z % 2 → Z % 2 = 1 → B[60 + Z]? ≠ some 10 → nxtE B = 5 := fun h h1 h2 => by rw [nxtE, if_neg (by omega), if_neg (by omega), ← hZ, if_pos ⟨h1, h2⟩]
          have n0 : ¬ B.length < 60 + Z + Z % 2 → (Z % 2 = 1 → B[60 + Z]? = some 10) → nxtE B = 0 := fun h h1 => by rw [nxtE, if_neg (by omega), if_neg (by omega), ← hZ, if_neg (fun ⟨a, c⟩ => c (h1 a))]
          have good : nxtE B = 0 → nxtH B = decH B ∧ nxtD B = cutP B 60 Z ∧ nxtN B = 60 + Z + Z % 2 := fun h => ⟨by rw [nxtH, if_pos h], by rw [nxtD, if_pos h, hZ], by rw [nxtN, if_pos h, ← hZ]⟩
          have hm2 := Nat.mod_two_eq_zero_or_one Z
          rw [show a + (60 + Z) = a + 60 + Z by omega] at hgz
          obtain ⟨D, hDD⟩ : ∃ D, D = cutP B 60 Z := ⟨_, rfl⟩
          rw [← hDD] at ce hcl good
          obtain ⟨X, hX⟩ : ∃ X, X = a + 60 + Z := ⟨_, rfl⟩
          obtain ⟨Y, hY⟩ : ∃ Y, Y = a + 60 := ⟨_, rfl⟩
          rw [← hX] at w2 ce hgz hlen
          rw [← hY] at w1 w2 ce
          have lX : ¬ ((b.length : Int) < (X : Int)) := by omega
          have lX' : (X : Int) ≤ (b.length : Int) := by omega
          have lY : (Y : Int) ≤ (X : Int) := by omega
          rcases hm2 with hm2 | hm2
          · have hzi : (Z : Int).tmod 2 = 0 := by rw [tmod2, hm2]; rfl
            have hE := n0 (by omega) (by omega)
            obtain ⟨m1, m2, m3⟩ := good hE
            have hnm := fits_name hE
            obtain ⟨q1, q2⟩ := nxtN_pos hE
            rw [m1] at hnm
            rw [m1, m2] at hR'
            have hstep := hR' hE
            have err : ∀ e, addE (decH B) D x = e → e ≠ 0 → prsG b = (PS0, a, e) := fun e h1 h2 => by
              have := hgo.trans (go_bad2 hne hE (by rw [m1, m2]; omega))
              rw [m1, m2, h1] at this
              exact this
            by_cases hn1 : (decH B).name = [47]
            · by_cases ha8 : a = 8
              · obtain ⟨f1, f2⟩ := r4.1 ha8
                have f1' := f1
                simp [PS.first] at f1'
                have hadd : addE (decH B) D x = 0 := by rw [addE, if_pos hn1, if_neg]; simp [f1, f2]
                have hX' : addX a (decH B) D x = { x with hm := true, mp := D } := by rw [addX, if_pos hn1]
                have ha8' : (a : Int) = 8 := by omega
                simp [h0, hs, w1, w2, lX, lY, lX', ce, hzi, hn1, stQ_1, aO]
                refine ⟨by omega, by omega, fun h => absurd ha8' h, fun _ => ?_⟩
                refine ⟨addX a (decH B) D x, a + nxtN B, ⟨hstep hadd, by omega⟩, ?_, by rw [kz_tbC, hX']; rfl, by rw [hX'], by omega⟩
                refine ⟨by simp, fun k hk => ?_⟩
                rw [hX']
                by_cases g1 : k = σ.next + 1
                · subst g1; simp [stQ_1, aO, mpC]
                · by_cases g2 : k = σ.next + 2
                  · subst g2; simp [stQ_2]
                  · by_cases g3 : k = σ.next + 3
                    · subst g3; simp [stQ_3]
                    · simp [g1, g2, g3, stQ]
              · have ha8' : ¬ (a : Int) = 8 := by omega
                have hadd : addE (decH B) D x = 8 := by
                  rw [addE, if_pos hn1, if_pos]
                  by_cases g1 : x.first = true
                  · refine .inr ?_
                    cases g2 : x.hm with
                    | true => rfl
                    | false => exact absurd (r4.2 ⟨g1, g2⟩) ha8
                  · exact .inl (by simpa using g1)
                have hq := err 8 hadd (by omega)
                simp [h0, hs, w1, w2, lX, lY, lX', ce, hzi, hn1, ha8', hq, PS0, stQ_below]
                omega
            · by_cases hn2 : (decH B).name = [47, 47]
              · have hEn := rEntries_p D (by omega)
                simp at hEn
                simp [h0, hs, w1, w2, lX, lY, lX', ce, hzi, hn1, hn2]
                refine ⟨by omega, by omega, ?_⟩
                refine Pur.call hEn ?_
                by_cases hen : entE D = 0
                · cases hht : x.ht with
                  | true =>
                    have hadd : addE (decH B) D x = 7 := by rw [addE, if_neg hn1, if_pos hn2, if_pos (.inr (by simp [PS.first, hht]))]
                    have hq := err 7 hadd (by omega)
                    simp [hen, hht, hq, PS0, stQ_below]
                  | false =>
                    by_cases hme : x.mem = []
                    · have hadd : addE (decH B) D x = 0 := by rw [addE, if_neg hn1, if_pos hn2, if_neg]; simp [hen, PS.first, hht, hme]
                      have hX' : addX a (decH B) D x = { x with ht := true, tab := D } := by rw [addX, if_neg hn1, if_pos hn2]
                      simp [hen, hht, hme, stQ_1, aO]
                      exact ⟨addX a (decH B) D x, a + nxtN B, ⟨hstep hadd, by omega⟩, by rw [hX']; exact Below.refl _, by rw [hX']; simp [tbC], by rw [hX'], by omega⟩
                    · have hadd : addE (decH B) D x = 7 := by rw [addE, if_neg hn1, if_pos hn2, if_pos (.inr (by simp [PS.first, hme]))]
                      have hq := err 7 hadd (by omega)
                      simp [hen, hht, hme, stQ_1, aO, hq, PS0, stQ_below]
                · have hadd : addE (decH B) D x = 7 := by rw [addE, if_neg hn1, if_pos hn2, if_pos (.inl hen)]
                  have hq := err 7 hadd (by omega)
                  simp [hen, hq, PS0, stQ_below]
              · have hRs := rResolve_p (decH B).name x.tab (by omega) o3 r5
                have hfz : frz (tbC x) = .ps (x.tab.map byteV) := by
                  unfold tbC
                  cases h : x.ht with
                  | true => simp
                  | false => simp [o4 h]
                simp at hRs
                simp [h0, hs, w1, w2, lX, lY, lX', ce, hzi, hn1, hn2, hfz]
                refine ⟨by omega, by omega, ?_⟩
                refine Pur.call hRs ?_
                have hadd : addE (decH B) D x = rslE (decH B).name x.tab := by rw [addE, if_neg hn1, if_neg hn2]
                by_cases hr0 : rslE (decH B).name x.tab = 0
                · have hX' : addX a (decH B) D x = { x with mem := x.mem ++ [⟨rslN (decH B).name x.tab, (decH B).t, (decH B).u, (decH B).g, (decH B).m, D⟩], off := x.off ++ [(a : Int)] } := by rw [addX, if_neg hn1, if_neg hn2]
                  simp [hr0, stQ_1, stQ_2, stQ_3, aO]
                  refine ⟨by omega, by omega, by omega, by omega, addX a (decH B) D x, a + nxtN B, ⟨hstep (by omega), by omega⟩, ?_, by rw [kz_tbC, hX']; rfl, by rw [hX'], by omega⟩
                  refine ⟨by simp, fun k hk => ?_⟩
                  rw [hX']
                  by_cases g1 : k = σ.next + 1
                  · subst g1; simp [stQ_1, aO, mpC]
                  · by_cases g2 : k = σ.next + 2
                    · subst g2; simp [stQ_2]
                    · by_cases g3 : k = σ.next + 3
                      · subst g3; simp [stQ_3]
                      · simp [g1, g2, g3, stQ]
                · have hq := err _ hadd hr0
                  simp [hr0, hq, PS0, stQ_below]
          · have hzi : (Z : Int).tmod 2 = 1 := by rw [tmod2, hm2]; rfl
            have w3 : IntKind.i64.wrap ((X : Int) + 1) = (X : Int) + 1 := wrap64_id (by omega) (by omega)
            by_cases hX1 : b.length < X + 1
            · have hE := n2 (by omega)
              have hq := hgo.trans (go_bad1 hne (by omega))
              rw [hE] at hq
              simp [h0, hs, w1, w2, w3, lX, lY, lX', ce, hzi, show ((b.length : Int) < (X : Int) + 1) by omega, hq, PS0, stQ_below]
              omega
            · have lX1 : ¬ ((b.length : Int) < (X : Int) + 1) := by omega
              obtain ⟨c, hc⟩ := get_ex (l := b) (i := X) (by omega)
              rw [hc] at hgz
              by_cases hc10 : c = 10
              · subst hc10
                have hE := n0 (by omega) (fun _ => hgz)
                have hb10 := hc
                obtain ⟨m1, m2, m3⟩ := good hE
                have hnm := fits_name hE
                obtain ⟨q1, q2⟩ := nxtN_pos hE
                rw [m1] at hnm
                rw [m1, m2] at hR'
                have hstep := hR' hE
                have err : ∀ e, addE (decH B) D x = e → e ≠ 0 → prsG b = (PS0, a, e) := fun e h1 h2 => by
                  have := hgo.trans (go_bad2 hne hE (by rw [m1, m2]; omega))
                  rw [m1, m2, h1] at this
                  exact this
                by_cases hn1 : (decH B).name = [47]
                · by_cases ha8 : a = 8
                  · obtain ⟨f1, f2⟩ := r4.1 ha8
                    have f1' := f1
                    simp [PS.first] at f1'
                    have hadd : addE (decH B) D x = 0 := by rw [addE, if_pos hn1, if_neg]; simp [f1, f2]
                    have hX' : addX a (decH B) D x = { x with hm := true, mp := D } := by rw [addX, if_pos hn1]
                    have ha8' : (a : Int) = 8 := by omega
                    simp [h0, hs, w1, w2, w3, lX, lY, lX', lX1, hb10, ce, hzi, hn1, stQ_1, aO]
                    refine ⟨by omega, by omega, fun h => absurd ha8' h, fun _ => ?_⟩
                    refine ⟨addX a (decH B) D x, a + nxtN B, ⟨hstep hadd, by omega⟩, ?_, by rw [kz_tbC, hX']; rfl, by rw [hX'], by omega⟩
                    refine ⟨by simp, fun k hk => ?_⟩
                    rw [hX']
                    by_cases g1 : k = σ.next + 1
                    · subst g1; simp [stQ_1, aO, mpC]
                    · by_cases g2 : k = σ.next + 2
                      · subst g2; simp [stQ_2]
                      · by_cases g3 : k = σ.next + 3
                        · subst g3; simp [stQ_3]
                        · simp [g1, g2, g3, stQ]
                  · have ha8' : ¬ (a : Int) = 8 := by omega
                    have hadd : addE (decH B) D x = 8 := by
                      rw [addE, if_pos hn1, if_pos]
                      by_cases g1 : x.first = true
                      · refine .inr ?_
                        cases g2 : x.hm with
                        | true => rfl
                        | false => exact absurd (r4.2 ⟨g1, g2⟩) ha8
                      · exact .inl (by simpa using g1)
                    have hq := err 8 hadd (by omega)
                    simp [h0, hs, w1, w2, w3, lX, lY, lX', lX1, hb10, ce, hzi, hn1, ha8', hq, PS0, stQ_below]
                    omega
                · by_cases hn2 : (decH B).name = [47, 47]
                  · have hEn := rEntries_p D (by omega)
                    simp at hEn
                    simp [h0, hs, w1, w2, w3, lX, lY, lX', lX1, hb10, ce, hzi, hn1, hn2]
                    refine ⟨by omega, by omega, ?_⟩
                    refine Pur.call hEn ?_
                    by_cases hen : entE D = 0
                    · cases hht : x.ht with
                      | true =>
                        have hadd : addE (decH B) D x = 7 := by rw [addE, if_neg hn1, if_pos hn2, if_pos (.inr (by simp [PS.first, hht]))]
                        have hq := err 7 hadd (by omega)
                        simp [hen, hht, hq, PS0, stQ_below]
                      | false =>
                        by_cases hme : x.mem = []
                        · have hadd : addE (decH B) D x = 0 := by rw [addE, if_neg hn1, if_pos hn2, if_neg]; simp [hen, PS.first, hht, hme]
                          have hX' : addX a (decH B) D x = { x with ht := true, tab := D } := by rw [addX, if_neg hn1, if_pos hn2]
                          simp [hen, hht, hme, stQ_1, aO]
                          exact ⟨addX a (decH B) D x, a + nxtN B, ⟨hstep hadd, by omega⟩, by rw [hX']; exact Below.refl _, by rw [hX']; simp [tbC], by rw [hX'], by omega⟩
                        · have hadd : addE (decH B) D x = 7 := by rw [addE, if_neg hn1, if_pos hn2, if_pos (.inr (by simp [PS.first, hme]))]
                          have hq := err 7 hadd (by omega)
                          simp [hen, hht, hme, stQ_1, aO, hq, PS0, stQ_below]
                    · have hadd : addE (decH B) D x = 7 := by rw [addE, if_neg hn1, if_pos hn2, if_pos (.inl hen)]
                      have hq := err 7 hadd (by omega)
                      simp [hen, hq, PS0, stQ_below]
                  · have hRs := rResolve_p (decH B).name x.tab (by omega) o3 r5
                    have hfz : frz (tbC x) = .ps (x.tab.map byteV) := by
                      unfold tbC
                      cases h : x.ht with
                      | true => simp
                      | false => simp [o4 h]
                    simp at hRs
                    simp [h0, hs, w1, w2, w3, lX, lY, lX', lX1, hb10, ce, hzi, hn1, hn2, hfz]
                    refine ⟨by omega, by omega, ?_⟩
                    refine Pur.call hRs ?_
                    have hadd : addE (decH B) D x = rslE (decH B).name x.tab := by rw [addE, if_neg hn1, if_neg hn2]
                    by_cases hr0 : rslE (decH B).name x.tab = 0
                    · have hX' : addX a (decH B) D x = { x with mem := x.mem ++ [⟨rslN (decH B).name x.tab, (decH B).t, (decH B).u, (decH B).g, (decH B).m, D⟩], off := x.off ++ [(a : Int)] } := by rw [addX, if_neg hn1, if_neg hn2]
                      simp [hr0, stQ_1, stQ_2, stQ_3, aO]
                      refine ⟨by omega, by omega, by omega, by omega, addX a (decH B) D x, a + nxtN B, ⟨hstep (by omega), by omega⟩, ?_, by rw [kz_tbC, hX']; rfl, by rw [hX'], by omega⟩
                      refine ⟨by simp, fun k hk => ?_⟩
                      rw [hX']
                      by_cases g1 : k = σ.next + 1
                      · subst g1; simp [stQ_1, aO, mpC]
                      · by_cases g2 : k = σ.next + 2
                        · subst g2; simp [stQ_2]
                        · by_cases g3 : k = σ.next + 3
                          · subst g3; simp [stQ_3]
                          · simp [g1, g2, g3, stQ]
                    · have hq := err _ hadd hr0
                      simp [hr0, hq, PS0, stQ_below]
              · have hE := n5 (by omega) hm2 (by rw [hgz]; intro e; cases e; exact hc10 rfl)
                have hq := hgo.trans (go_bad1 hne (by omega))
                rw [hE] at hq
                have hc10' : ¬ (c.toNat : Int) = 10 := fun e => hc10 (UInt8.toNat_inj.1 (by show _ = 10; omega))
                simp [h0, hs, w1, w2, w3, lX, lY, lX', ce, hzi, lX1, hc, hc10', hq, PS0, stQ_below]
                omega
      · have hE : nxtE B = decE B := by rw [nxtE, if_pos h0]
        have hq := hgo.trans (go_bad1 hne (by omega))
        rw [hE] at hq
        simp [h0, hq, PS0, stQ_below]
    · have hae : a = b.length := by omega
      have hq : prsG b = (x, 0, 0) := by rw [hgo, List.drop_eq_nil_of_le (by omega)]; rfl
      simp [stQ_1, aO, hq]
      refine ⟨?_, stQ_below σ x⟩
      unfold mpC
      cases h : x.hm with
      | true => simp
      | false => simp [o5 h]
  · have hp : prsG b = (PS0, 0, 1) := by rw [prsG, if_neg (by omega), if_pos (by simpa using hm)]
    simp [hm, hp, PS0]
end Go.Proofs.YtcjdagpadnahfaaGreatDoor
