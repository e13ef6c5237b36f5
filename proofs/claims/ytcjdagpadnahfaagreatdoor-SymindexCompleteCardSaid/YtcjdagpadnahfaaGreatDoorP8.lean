/- A part is added. No condition. -/
import Derived.Test.YtcjdagpadnahfaaGreatDoorP7
set_option linter.unusedVariables false
set_option linter.unusedSimpArgs false
set_option linter.unnecessarySimpa false
namespace Go.Proofs.YtcjdagpadnahfaaGreatDoor
open Go Go.AW
set_option maxRecDepth 100000
set_option maxHeartbeats 8000000

def mpC (x : PS) : AV := if x.hm then bytes x.mp else .nl
def tbC (x : PS) : AV := if x.ht then bytes x.tab else .nl
/-- A parser. -/
def pO (i1 i2 : Nat) (x : PS) : AObj := .arr 102 0 [.agg [boolV x.hm, mpC x, .lg i1 (x.mem.map memV), .lg i2 (x.off.map intV), tbC x, boolV x.ht]]
def isP (σ : Store) (c i1 i2 : Nat) (x : PS) : Prop := σ.get c = some (pO i1 i2 x) ∧ σ.get i1 = some (.log 46 x.mem.length) ∧ σ.get i2 = some (.log 3 x.off.length) ∧ c ≠ i1 ∧ c ≠ i2 ∧ i1 ≠ i2
/-- The store with this parser. -/
def stX (σ : Store) (c i1 i2 : Nat) (x : PS) : Store := ((σ.set i1 (.log 46 x.mem.length)).set i2 (.log 3 x.off.length)).set c (pO i1 i2 x)
def PS.fine (x : PS) : Prop := x.mem.length ≤ 1000000 ∧ x.off.length ≤ 1000000 ∧ x.tab.length ≤ 900000 ∧ (x.ht = false → x.tab = [])
theorem stX_next (σ : Store) (c i1 i2 : Nat) (x : PS) : (stX σ c i1 i2 x).next = σ.next := by simp [stX]
theorem stX_get (σ : Store) (c i1 i2 : Nat) (x : PS) (k : Nat) : (stX σ c i1 i2 x).get k = if k = c then some (pO i1 i2 x) else if k = i2 then some (.log 3 x.off.length) else if k = i1 then some (.log 46 x.mem.length) else σ.get k := by simp [stX]
theorem pO_bel {n i1 i2 : Nat} (h1 : i1 < n) (h2 : i2 < n) (x : PS) : ObjBel n (pO i1 i2 x) := by
  intro e he y hy
  simp at he; subst he; simp [AV.cells] at hy
  rcases hy with rfl | rfl | rfl | rfl | rfl | rfl
  · exact .c _
  · unfold mpC; split
    · exact bel_bytes _ _
    · exact .nl
  · refine .lg _ _ h1 ?_
    intro a ha
    obtain ⟨v, _, rfl⟩ := List.mem_map.1 ha
    simp
  · refine .lg _ _ h2 ?_
    intro a ha
    obtain ⟨v, _, rfl⟩ := List.mem_map.1 ha
    exact .c _
  · unfold tbC; split
    · exact bel_bytes _ _
    · exact .nl
  · exact .c _
theorem stX_bel {σ : Store} (hσ : StoreBel σ) {c i1 i2 : Nat} (hc : c < σ.next) (h1 : i1 < σ.next) (h2 : i2 < σ.next) (x : PS) : StoreBel (stX σ c i1 i2 x) :=
  StoreBel.set_obj (StoreBel.set_obj (o := .log _ _) (StoreBel.set_obj (o := .log _ _) hσ h1 trivial) (by simpa using h2) trivial) (by simpa using hc) (pO_bel (by simpa using h1) (by simpa using h2) x)
theorem fits_name {b : W} (h : nxtE b = 0) : (nxtH b).name.length ≤ 16 := by
  have hd : decE b = 0 := by
    unfold nxtE at h
    split at h
    · rename_i h1; exact absurd h h1
    · rename_i h1; simpa using h1
  rw [nxtH, if_pos h, decH, if_pos hd]
  have := rt_len (b.take 16)
  simp at this
  show (dName b).length ≤ 16
  unfold dName
  omega
theorem add_c (m : Int) (x : PS) (hx : x.fine) (c i1 i2 a : Nat) (B : W) (hB : B.length ≤ 900000) (h0 : nxtE B = 0) (σ : Store) (hp : isP σ c i1 i2 x) :
    ACalls (EM m) 54 [.rp c 0 0 0, intV a, partV B] σ fun r s => r = intV (addE (nxtH B) (nxtD B) x) ∧ s = if addE (nxtH B) (nxtD B) x = 0 then stX σ c i1 i2 (addX a (nxtH B) (nxtD B) x) else σ := by
  obtain ⟨p1, p2, p3, n1, n2, n3⟩ := hp
  obtain ⟨f1, f2, f3, f4⟩ := hx
  have hnl := fits_name h0
  have hdl : (nxtD B).length ≤ 900000 := by rw [nxtD, if_pos h0, cutP]; simp; omega
  refine ACalls.enterA [] Tryz.func54 rfl Tryz.ntmps54 Tryz.results54 hmE (by kernel_rfl) (by simp) fun hσ => ?_
  conv => arg 5; cbv
  have b1 := (hσ _ _ p1).1
  have b2 := (hσ _ _ p2).1
  have b3 := (hσ _ _ p3).1
  have e1 : ¬ c = σ.next := by omega
  have e2 : ¬ i1 = σ.next := by omega
  have e3 : ¬ i2 = σ.next := by omega
  have e4 : ¬ σ.next = c := by omega
  have e5 : ¬ σ.next = i1 := by omega
  have e6 : ¬ σ.next = i2 := by omega
  have fin0 : ∀ (o : AObj) (K : AV → Store → Prop) (n : Int), K (intV n) σ → AW.Fin σ.next (σ.alloc o) (intV n) K := fun o K n h => Fin.cut rfl ((Below.refl σ).alloc _) hσ (.c _) h
  have finX : ∀ (X : PS) (s : Store) (K : AV → Store → Prop), Below (stX σ c i1 i2 X) s → K (intV 0) (stX σ c i1 i2 X) → AW.Fin σ.next s (intV 0) K := fun X s K hb h => Fin.cut (stX_next ..) hb (stX_bel hσ b1 b2 b3 X) (.c _) h
  by_cases hn1 : (nxtH B).name = [47]
  · by_cases hf : x.first = true ∧ x.hm = false
    · obtain ⟨hf1, hf2⟩ := hf
      simp [PS.first] at hf1
      have hE : addE (nxtH B) (nxtD B) x = 0 := by rw [addE, if_pos hn1, if_neg]; simp [PS.first, hf1, hf2]
      have hX : addX a (nxtH B) (nxtD B) x = { x with hm := true, mp := nxtD B } := by rw [addX, if_pos hn1]
      simp [p1, pO, e1, e4, hn1, hf1, hf2]
      refine finX (addX a (nxtH B) (nxtD B) x) _ _ ⟨by simp [stX_next], fun k hk => ?_⟩ ⟨by rw [hE], by rw [if_pos hE]⟩
      rw [stX_next] at hk
      rw [stX_get, hX]
      have hkn : ¬ k = σ.next := by omega
      by_cases g1 : k = c
      · subst g1; simp [pO, mpC, tbC, hf1]
      · by_cases g2 : k = i2
        · subst g2; simp [g1, hkn, p3]
        · by_cases g3 : k = i1
          · subst g3; simp [g1, g2, hkn, p2]
          · simp [g1, g2, g3, hkn]
    · have hE : addE (nxtH B) (nxtD B) x = 8 := by
        rw [addE, if_pos hn1, if_pos]
        by_cases h1 : x.first = true
        · exact .inr (by simpa using fun h => hf ⟨h1, h⟩)
        · exact .inl (by simpa using h1)
      have hq : ∀ o, AW.Fin σ.next (σ.alloc o) (intV 8) fun r s => r = intV (addE (nxtH B) (nxtD B) x) ∧ s = if addE (nxtH B) (nxtD B) x = 0 then stX σ c i1 i2 (addX a (nxtH B) (nxtD B) x) else σ := fun o => fin0 o _ 8 ⟨by rw [hE], by rw [if_neg (by omega)]⟩
      by_cases h1 : x.mem = []
      · cases h2 : x.ht with
        | true => simp [p1, pO, e1, e4, hn1, h1, h2]; exact hq _
        | false =>
          have h3 : x.hm = true := by
            cases h3 : x.hm with
            | true => rfl
            | false => exact absurd ⟨by simp [PS.first, h1, h2], h3⟩ hf
          simp [p1, pO, e1, e4, hn1, h1, h2, h3]; exact hq _
      · simp [p1, pO, e1, e4, hn1, h1]; exact hq _
  · by_cases hn2 : (nxtH B).name = [47, 47]
    · have hEn := Entries_p m (nxtD B) hdl
      simp at hEn
      by_cases hf : x.first = true ∧ entE (nxtD B) = 0
      · obtain ⟨hf1, hf2⟩ := hf
        simp [PS.first] at hf1
        have hE : addE (nxtH B) (nxtD B) x = 0 := by rw [addE, if_neg hn1, if_pos hn2, if_neg]; simp [PS.first, hf1, hf2]
        have hX : addX a (nxtH B) (nxtD B) x = { x with ht := true, tab := nxtD B } := by rw [addX, if_neg hn1, if_pos hn2]
        simp [p1, pO, e1, e4, hn2, hf1]
        refine Pur.call hEn ?_
        simp [p1, pO, e1, e4, hf1, hf2]
        refine finX (addX a (nxtH B) (nxtD B) x) _ _ ⟨by simp [stX_next], fun k hk => ?_⟩ ⟨by rw [hE], by rw [if_pos hE]⟩
        rw [stX_next] at hk
        rw [stX_get, hX]
        have hkn : ¬ k = σ.next := by omega
        by_cases g1 : k = c
        · subst g1; simp [pO, mpC, tbC, hf1]
        · by_cases g2 : k = i2
          · subst g2; simp [g1, hkn, p3]
          · by_cases g3 : k = i1
            · subst g3; simp [g1, g2, hkn, p2]
            · simp [g1, g2, g3, hkn]
      · have hE : addE (nxtH B) (nxtD B) x = 7 := by
          rw [addE, if_neg hn1, if_pos hn2, if_pos]
          by_cases h1 : x.first = true
          · exact .inl fun h => hf ⟨h1, h⟩
          · exact .inr (by simpa using h1)
        have hq : ∀ o, AW.Fin σ.next (σ.alloc o) (intV 7) fun r s => r = intV (addE (nxtH B) (nxtD B) x) ∧ s = if addE (nxtH B) (nxtD B) x = 0 then stX σ c i1 i2 (addX a (nxtH B) (nxtD B) x) else σ := fun o => fin0 o _ 7 ⟨by rw [hE], by rw [if_neg (by omega)]⟩
        by_cases hen : entE (nxtD B) = 0
        · by_cases h1 : x.mem = []
          · have h2 : x.ht = true := by
              cases h2 : x.ht with
              | true => rfl
              | false => exact absurd ⟨by simp [PS.first, h1, h2], hen⟩ hf
            simp [p1, pO, e1, e4, hn2, h1, h2]
            refine Pur.call hEn ?_
            simp [hen]; exact hq _
          · simp [p1, pO, e1, e4, hn2, h1]
            refine Pur.call hEn ?_
            simp [hen]; exact hq _
        · by_cases h1 : x.mem = []
          · simp [p1, pO, e1, e4, hn2, h1]
            refine Pur.call hEn ?_
            simp [hen]; exact hq _
          · simp [p1, pO, e1, e4, hn2, h1]
            refine Pur.call hEn ?_
            simp [hen]; exact hq _
    · have hR := Resolve_p m (nxtH B).name x.tab (by omega) f3
      have hfz : frz (tbC x) = .ps (x.tab.map byteV) := by
        unfold tbC
        cases h : x.ht with
        | true => simp
        | false => simp [f4 h]
      simp at hR
      have hE : addE (nxtH B) (nxtD B) x = rslE (nxtH B).name x.tab := by rw [addE, if_neg hn1, if_neg hn2]
      have hX : addX a (nxtH B) (nxtD B) x = { x with mem := x.mem ++ [⟨rslN (nxtH B).name x.tab, (nxtH B).t, (nxtH B).u, (nxtH B).g, (nxtH B).m, nxtD B⟩], off := x.off ++ [(a : Int)] } := by rw [addX, if_neg hn1, if_neg hn2]
      by_cases h1 : x.mem = []
      · simp [p1, pO, e1, e4, hn1, hn2, h1, hfz]
        refine Pur.d hR ?_
        by_cases hr0 : rslE (nxtH B).name x.tab = 0
        · simp [p1, p2, p3, pO, e1, e2, e3, e4, e5, e6, n1, n2, n3, n1.symm, n2.symm, n3.symm, hr0, h1]
          refine ⟨by omega, by omega, finX (addX a (nxtH B) (nxtD B) x) _ _ ⟨by simp [stX_next], fun k hk => ?_⟩ ⟨by rw [hE, hr0], by rw [if_pos (by omega)]⟩⟩
          · rw [stX_next] at hk
            rw [stX_get, hX]
            have hkn : ¬ k = σ.next := by omega
            by_cases g1 : k = c
            · subst g1; simp [pO, mpC, tbC, h1]
            · by_cases g2 : k = i2
              · subst g2; simp [g1]
              · by_cases g3 : k = i1
                · subst g3; simp [g1, g2, h1]
                · simp [g1, g2, g3, hkn]
        · simp [hr0]
          exact fin0 _ _ _ ⟨by rw [hE], by rw [if_neg (by omega)]⟩
      · simp [p1, pO, e1, e4, hn1, hn2, h1, hfz]
        refine Pur.d hR ?_
        by_cases hr0 : rslE (nxtH B).name x.tab = 0
        · simp [p1, p2, p3, pO, e1, e2, e3, e4, e5, e6, n1, n2, n3, n1.symm, n2.symm, n3.symm, hr0]
          refine ⟨by omega, by omega, by omega, by omega, finX (addX a (nxtH B) (nxtD B) x) _ _ ⟨by simp [stX_next], fun k hk => ?_⟩ ⟨by rw [hE, hr0], by rw [if_pos (by omega)]⟩⟩
          · rw [stX_next] at hk
            rw [stX_get, hX]
            have hkn : ¬ k = σ.next := by omega
            by_cases g1 : k = c
            · subst g1; simp [pO, mpC, tbC]
            · by_cases g2 : k = i2
              · subst g2; simp [g1]
              · by_cases g3 : k = i1
                · subst g3; simp [g1, g2]
                · simp [g1, g2, g3, hkn]
        · simp [hr0]
          exact fin0 _ _ _ ⟨by rw [hE], by rw [if_neg (by omega)]⟩
end Go.Proofs.YtcjdagpadnahfaaGreatDoor
