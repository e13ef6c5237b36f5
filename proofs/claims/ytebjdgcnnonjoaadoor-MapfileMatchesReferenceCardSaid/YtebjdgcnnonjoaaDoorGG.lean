/- Merged texts, in order: Lines of units with members. No condition. | Lines of resolutions. No condition. | Lines of slots. No condition. | The kinds of lines; Parse. No condition. | Print. No condition. | The reference's Print, Printable, comparing. No condition. -/
import Derived.Test.YtebjdgcnnonjoaaDoorGF
section
set_option linter.unusedVariables false
set_option linter.unusedSimpArgs false
set_option linter.unnecessarySimpa false
namespace Go.Proofs.YtebjdgcnnonjoaaDoor
open Go Go.AW
set_option maxRecDepth 100000
set_option maxHeartbeats 8000000

theorem unit3_c (a b c : W) (ha : a.length ≤ 100000) (hb : b.length ≤ 100000) (hc : c.length ≤ 100000) (p i j k : Nat) (m : Mp) (ph : Nat) (hm : m.us.length ≤ 100000) (σ : Store) (hp : isP σ p i j k m ph) :
    ACalls E 41 [.rp p 0 0 0, strs [a, b, c]] σ fun r s => r = boolV (nmB a && (nmB b && numOk c)) ∧ s = psP σ p i j k (m.add (.u ⟨(unV a).1, (unV b).1, (atV c).1⟩)) ph := by
  have hN := hp.ne2
  have hP := hp
  refine ACalls.enterA [6000054, 6000056] Tryd.func41 rfl Tryd.ntmps41 Tryd.results41 hmE (by kernel_rfl) (by simp) fun hσ => ?_
  conv => arg 5; cbv
  obtain ⟨h1, h2, h3, h4⟩ := hp
  have b1 := (hσ _ _ h1).1
  have b2 := (hσ _ _ h2).1
  have b3 := (hσ _ _ h3).1
  have b4 := (hσ _ _ h4).1
  have na := name_p' a (by omega)
  have nb := name_p' b (by omega)
  have nc := number_p c (by omega)
  have q : ∀ x, ¬ p = σ.next + x ∧ ¬ i = σ.next + x ∧ ¬ j = σ.next + x ∧ ¬ k = σ.next + x ∧ ¬ σ.next + x = p ∧ ¬ σ.next + x = i ∧ ¬ σ.next + x = j ∧ ¬ σ.next + x = k := fun x => by omega
  have q0 := q 0
  have q1 := q 1
  have q2 := q 2
  have q3 := q 3
  have q4 := q 4
  simp only [Nat.add_zero] at q0
  simp
  refine ⟨?_, ?_, ?_⟩
  all_goals
    refine callD_of (mustS_c _ _) ?_
    simp
    refine Pur.q na ?_
    simp
    first | refine ⟨Pur.call na (by simp), ?_⟩ | skip
    refine callD_of (mustSc_c (unV a).1 (nmB a) true _ σ.next _ (by first | (simp; done) | (simp; omega)) (by first | (simp; done) | (simp; omega))) ?_
    simp
    refine callD_of (mustS_c _ _) ?_
    simp
    refine Pur.q nb ?_
    simp
    refine callD_of (mustSc_c (unV b).1 (nmB b) (nmB a) _ σ.next _ (by first | (simp; done) | (simp; omega)) (by first | (simp; done) | (simp; omega))) ?_
    simp
    refine callD_of (mustI_c _ _) ?_
    simp
    refine Pur.q nc ?_
    simp
    refine callD_of (mustIc_c (atV c).1 (numOk c) (nmB a && nmB b) _ σ.next _ (by first | (simp; done) | (simp; omega)) (by first | (simp; done) | (simp; omega))) ?_
    simp [h1, h2, pvO, q0, q1, q2, q3, q4, hN, Bool.and_assoc]
    refine ⟨by omega, by omega, fin_of hσ hP (by simp) (by simp; omega) (by simp [pvO, Mp.add, uV, q0, q1, q2, q3, q4, hN]) (by simp [Mp.add, q0, q1, q2, q3, q4, hN]) (by simp [Mp.add, q0, q1, q2, q3, q4, hN, h3]) (by simp [Mp.add, q0, q1, q2, q3, q4, hN, h4]) fun n hn n1 n2 n3 n4 => ?_⟩
    simp [n1, n2, show ¬ n = σ.next by omega, show ¬ n = σ.next + 1 by omega, show ¬ n = σ.next + 2 by omega, show ¬ n = σ.next + 3 by omega, show ¬ n = σ.next + 4 by omega]
end Go.Proofs.YtebjdgcnnonjoaaDoor
end

section
set_option linter.unusedVariables false
set_option linter.unusedSimpArgs false
set_option linter.unnecessarySimpa false
namespace Go.Proofs.YtebjdgcnnonjoaaDoor
open Go Go.AW
set_option maxRecDepth 100000
set_option maxHeartbeats 8000000

def unB (s : W) : Bool := s == [45] || numOk s
def unI (s : W) : Int := if s = [45] then -1 else (atV s).1
theorem symbol5_c (a b c d e : W) (ha : a.length ≤ 100000) (hb : b.length ≤ 100000) (hc : c.length ≤ 100000) (hd : d.length ≤ 100000) (he : e.length ≤ 100000) (p i j k : Nat) (m : Mp) (ph : Nat) (hm : m.ss.length ≤ 100000) (σ : Store) (hp : isP σ p i j k m ph) :
    ACalls E 42 [.rp p 0 0 0, strs [a, b, c, d, e]] σ fun r s => r = boolV (nmB a && (decide (0 < ixL bnames b) && (numOk c && (numOk d && unB e)))) ∧ s = psP σ p i j k (m.add (.s ⟨(unV a).1, ixL bnames b, (atV c).1, (atV d).1, unI e⟩)) ph := by
  have hN := hp.ne2
  have hP := hp
  refine ACalls.enterA [6000054, 6000056, 6000057, 6000058] Tryd.func42 rfl Tryd.ntmps42 Tryd.results42 hmE (by kernel_rfl) (by simp) fun hσ => ?_
  conv => arg 5; cbv
  obtain ⟨h1, h2, h3, h4⟩ := hp
  have b1 := (hσ _ _ h1).1
  have b2 := (hσ _ _ h2).1
  have b3 := (hσ _ _ h3).1
  have b4 := (hσ _ _ h4).1
  have na := name_p' a (by omega)
  obtain ⟨B, hB⟩ : ∃ B, B = decide (0 < ixL bnames b) := ⟨_, rfl⟩
  have nb := binding_p b
  rw [← hB] at nb ⊢
  have nc := number_p c (by omega)
  have nd := number_p d (by omega)
  have ne : Pur E 58 [str e] (.tup [intV (unI e), boolV (unB e)]) := unitNumber_p e (by omega)
  have q : ∀ x, ¬ p = σ.next + x ∧ ¬ i = σ.next + x ∧ ¬ j = σ.next + x ∧ ¬ k = σ.next + x ∧ ¬ σ.next + x = p ∧ ¬ σ.next + x = i ∧ ¬ σ.next + x = j ∧ ¬ σ.next + x = k := fun x => by omega
  have q0 := q 0
  have q1 := q 1
  have q2 := q 2
  have q3 := q 3
  simp only [Nat.add_zero] at q0
  simp [h1, h3, pvO, q0, q1, q2, q3, hN]
  refine (mustS_c _ _).mono ?_
  rintro _ _ ⟨rfl, rfl⟩
  simp [h1, h3, pvO, q0, q1, q2, q3, hN]
  refine (mustI_c _ _).mono ?_
  rintro _ _ ⟨rfl, rfl⟩
  simp [h1, h3, pvO, q0, q1, q2, q3, hN]
  refine Pur.q na ?_
  simp [h1, h3, pvO, q0, q1, q2, q3, hN]
  refine callD_of (mustSc_c (unV a).1 (nmB a) true _ σ.next _ (by first | (simp; done) | (simp; omega)) (by first | (simp; done) | (simp; omega))) ?_
  simp [h1, h3, pvO, q0, q1, q2, q3, hN]
  refine Pur.q nb ?_
  simp [h1, h3, pvO, q0, q1, q2, q3, hN]
  refine callD_of (mustIc_c (ixL bnames b) B (nmB a) _ σ.next _ (by first | (simp; done) | (simp; omega)) (by first | (simp; done) | (simp; omega))) ?_
  simp [h1, h3, pvO, q0, q1, q2, q3, hN]
  refine Pur.q nc ?_
  simp [h1, h3, pvO, q0, q1, q2, q3, hN]
  refine callD_of (mustIc_c (atV c).1 (numOk c) (nmB a && B) _ σ.next _ (by first | (simp; done) | (simp; omega)) (by first | (simp; done) | (simp; omega))) ?_
  simp [h1, h3, pvO, q0, q1, q2, q3, hN]
  refine Pur.q nd ?_
  simp [h1, h3, pvO, q0, q1, q2, q3, hN]
  refine callD_of (mustIc_c (atV d).1 (numOk d) (nmB a && B && numOk c) _ σ.next _ (by first | (simp; done) | (simp; omega)) (by first | (simp; done) | (simp; omega))) ?_
  simp [h1, h3, pvO, q0, q1, q2, q3, hN]
  refine Pur.q ne ?_
  simp [h1, h3, pvO, q0, q1, q2, q3, hN]
  refine callD_of (mustIc_c (unI e) (unB e) (nmB a && B && numOk c && numOk d) _ σ.next _ (by first | (simp; done) | (simp; omega)) (by first | (simp; done) | (simp; omega))) ?_
  simp [h1, h3, pvO, q0, q1, q2, q3, hN, Bool.and_assoc]
  refine ⟨by omega, by omega, fin_of hσ hP (by simp) (by simp; omega) (by simp [pvO, Mp.add, syV, q0, q1, q2, q3, hN]) (by simp [Mp.add, q0, q1, q2, q3, hN, h2]) (by simp [Mp.add, q0, q1, q2, q3, hN, h3]) (by simp [Mp.add, q0, q1, q2, q3, hN, h4]) fun n hn n1 n2 n3 n4 => ?_⟩
  simp [n1, n3, show ¬ n = σ.next by omega, show ¬ n = σ.next + 1 by omega, show ¬ n = σ.next + 2 by omega]
theorem symbol0_c (w : List W) (hw : w.length ≤ 100000) (hl : w.length ≠ 5) (p i j k : Nat) (m : Mp) (ph : Nat) (σ : Store) (hp : isP σ p i j k m ph) :
    ACalls E 42 [.rp p 0 0 0, strs w] σ fun r s => r = boolV false ∧ s = psP σ p i j k m ph := by
  rw [psP_same hp]
  refine ACalls.enterA [6000054, 6000056, 6000057, 6000058] Tryd.func42 rfl Tryd.ntmps42 Tryd.results42 hmE (by kernel_rfl) (by simp) fun hσ => ?_
  conv => arg 5; cbv
  simp [show ¬ (w.length : Int) = 5 by omega]
  exact Fin.cut (σ2 := σ) rfl (by refine ⟨by simp, fun n hn => ?_⟩; simp [show ¬ n = σ.next by omega]) hσ (by simp) ⟨by simp; omega, rfl⟩
end Go.Proofs.YtebjdgcnnonjoaaDoor
end

section
set_option linter.unusedVariables false
set_option linter.unusedSimpArgs false
set_option linter.unnecessarySimpa false
namespace Go.Proofs.YtebjdgcnnonjoaaDoor
open Go Go.AW
set_option maxRecDepth 100000
set_option maxHeartbeats 8000000

theorem slot3_c (a c d : W) (ha : a.length ≤ 100000) (hc : c.length ≤ 100000) (hd : d.length ≤ 100000) (p i j k : Nat) (m : Mp) (ph : Nat) (hm : m.ts.length ≤ 100000) (σ : Store) (hp : isP σ p i j k m ph) :
    ACalls E 43 [.rp p 0 0 0, strs [a, c, d]] σ fun r s => r = boolV (nmB a && (numOk c && numOk d)) ∧ s = psP σ p i j k (m.add (.t ⟨(unV a).1, (atV c).1, (atV d).1⟩)) ph := by
  have hN := hp.ne2
  have hP := hp
  refine ACalls.enterA [6000054, 6000056, 6000057, 6000058] Tryd.func43 rfl Tryd.ntmps43 Tryd.results43 hmE (by kernel_rfl) (by simp) fun hσ => ?_
  conv => arg 5; cbv
  obtain ⟨h1, h2, h3, h4⟩ := hp
  have b1 := (hσ _ _ h1).1
  have b2 := (hσ _ _ h2).1
  have b3 := (hσ _ _ h3).1
  have b4 := (hσ _ _ h4).1
  have na := name_p' a (by omega)
  have nc := number_p c (by omega)
  have nd := number_p d (by omega)
  have q : ∀ x, ¬ p = σ.next + x ∧ ¬ i = σ.next + x ∧ ¬ j = σ.next + x ∧ ¬ k = σ.next + x ∧ ¬ σ.next + x = p ∧ ¬ σ.next + x = i ∧ ¬ σ.next + x = j ∧ ¬ σ.next + x = k := fun x => by omega
  have q0 := q 0
  have q1 := q 1
  have q2 := q 2
  have q3 := q 3
  simp only [Nat.add_zero] at q0
  simp [h1, h4, pvO, q0, q1, q2, q3, hN]
  refine callD_of (mustS_c _ _) ?_
  simp [h1, h4, pvO, q0, q1, q2, q3, hN]
  refine Pur.q na ?_
  simp [h1, h4, pvO, q0, q1, q2, q3, hN]
  refine callD_of (mustSc_c (unV a).1 (nmB a) true _ σ.next _ (by first | (simp; done) | (simp; omega)) (by first | (simp; done) | (simp; omega))) ?_
  simp [h1, h4, pvO, q0, q1, q2, q3, hN]
  refine callD_of (mustI_c _ _) ?_
  simp [h1, h4, pvO, q0, q1, q2, q3, hN]
  refine Pur.q nc ?_
  simp [h1, h4, pvO, q0, q1, q2, q3, hN]
  refine callD_of (mustIc_c (atV c).1 (numOk c) (nmB a) _ σ.next _ (by first | (simp; done) | (simp; omega)) (by first | (simp; done) | (simp; omega))) ?_
  simp [h1, h4, pvO, q0, q1, q2, q3, hN]
  refine callD_of (mustI_c _ _) ?_
  simp [h1, h4, pvO, q0, q1, q2, q3, hN]
  refine Pur.q nd ?_
  simp [h1, h4, pvO, q0, q1, q2, q3, hN]
  refine callD_of (mustIc_c (atV d).1 (numOk d) (nmB a && numOk c) _ σ.next _ (by first | (simp; done) | (simp; omega)) (by first | (simp; done) | (simp; omega))) ?_
  simp [h1, h4, pvO, q0, q1, q2, q3, hN, Bool.and_assoc]
  refine ⟨by omega, by omega, fin_of hσ hP (by simp) (by simp; omega) (by simp [pvO, Mp.add, slV, q0, q1, q2, q3, hN]) (by simp [Mp.add, q0, q1, q2, q3, hN, h2]) (by simp [Mp.add, q0, q1, q2, q3, hN, h3]) (by simp [Mp.add, q0, q1, q2, q3, hN, h4]) fun n hn n1 n2 n3 n4 => ?_⟩
  simp [n1, n4, show ¬ n = σ.next by omega, show ¬ n = σ.next + 1 by omega, show ¬ n = σ.next + 2 by omega, show ¬ n = σ.next + 3 by omega]
theorem slot0_c (w : List W) (hw : w.length ≤ 100000) (hl : w.length ≠ 3) (p i j k : Nat) (m : Mp) (ph : Nat) (σ : Store) (hp : isP σ p i j k m ph) :
    ACalls E 43 [.rp p 0 0 0, strs w] σ fun r s => r = boolV false ∧ s = psP σ p i j k m ph := by
  rw [psP_same hp]
  refine ACalls.enterA [6000054, 6000056] Tryd.func43 rfl Tryd.ntmps43 Tryd.results43 hmE (by kernel_rfl) (by simp) fun hσ => ?_
  conv => arg 5; cbv
  simp [show ¬ (w.length : Int) = 3 by omega]
  exact Fin.cut (σ2 := σ) rfl (by refine ⟨by simp, fun n hn => ?_⟩; simp [show ¬ n = σ.next by omega]) hσ (by simp) ⟨by simp; omega, rfl⟩
end Go.Proofs.YtebjdgcnnonjoaaDoor
end

section
set_option linter.unusedVariables false
set_option linter.unusedSimpArgs false
set_option linter.unnecessarySimpa false
namespace Go.Proofs.YtebjdgcnnonjoaaDoor
open Go Go.AW
set_option maxRecDepth 100000
set_option maxHeartbeats 8000000

theorem str_inj (a b : W) : (Value.string (bs a) = Value.string (bs b)) = (a = b) := by
  rw [eq_iff_iff]
  constructor
  · intro h
    have h1 := congrArg (fun v => match v with | Value.string s => s.data.toList | _ => []) h
    simpa using h1
  · rintro rfl; rfl
def kindsM : List (Value × AV) := [(.string (bs [117, 110, 105, 116]), .agg [intV 0, .fn (.func 41) [] []]), (.string (bs [115, 121, 109, 98, 111, 108]), .agg [intV 1, .fn (.func 42) [] []]),
  (.string (bs [115, 108, 111, 116]), .agg [intV 2, .fn (.func 43) [] []]), (.string (bs [101, 110, 100]), .agg [intV 3, .fn (.func 44) [] []])]
theorem kinds_c (σ : Store) : ACalls E 22 [] σ fun a s => a = .mp σ.next ∧ s = σ.alloc (.map kindsM [0, 1, 2, 3] 4) := by
  refine ACalls.enterA [] Tryd.func22 rfl Tryd.ntmps22 Tryd.results22 hmE (by kernel_rfl) (by simp) fun hσ => ?_
  conv => arg 5; cbv
  simp [aFind, str_inj]
  exact Fin.same (by simp) ⟨rfl, rfl⟩
theorem aFind_kinds (w : W) : aFind (.string (bs w)) kindsM = if w = wUnit then some (0, .agg [intV 0, .fn (.func 41) [] []]) else if w = wSymbol then some (1, .agg [intV 1, .fn (.func 42) [] []])
    else if w = wSlot then some (2, .agg [intV 2, .fn (.func 43) [] []]) else if w = wEnd then some (3, .agg [intV 3, .fn (.func 44) [] []]) else none := by
  simp only [kindsM, aFind, str_inj, wUnit, wSymbol, wSlot, wEnd]
  by_cases h1 : w = [117, 110, 105, 116]
  · simp [h1]
  · by_cases h2 : w = [115, 121, 109, 98, 111, 108]
    · simp [h2]
    · by_cases h3 : w = [115, 108, 111, 116]
      · simp [h3]
      · by_cases h4 : w = [101, 110, 100]
        · simp [h4]
        · simp [h1, h2, h3, h4, Ne.symm h1, Ne.symm h2, Ne.symm h3, Ne.symm h4, fun e : _ = w => h1 e.symm, fun e : _ = w => h2 e.symm, fun e : _ = w => h3 e.symm, fun e : _ = w => h4 e.symm]
theorem nmB_iff {a : W} : nmB a = true → nmW a = some (unV a).1 := by
  intro h
  unfold nmB unV at h
  unfold nmW unV
  cases hu : un a with
  | none => simp [hu] at h
  | some n => simp [hu] at h; simp [h]
theorem nmB_not {a : W} : nmB a = false → nmW a = none := by
  intro h
  unfold nmB unV at h
  unfold nmW
  cases hu : un a with
  | none => rfl
  | some n => simp [hu] at h; simp [h]
theorem numB_iff {a : W} : numOk a = true → numW a = some (atV a).1 := by
  intro h
  rw [numW, if_pos h, at_val h]
theorem numB_not {a : W} : numOk a = false → numW a = none := by
  intro h
  rw [numW, if_neg (by simp [h])]
theorem bdB_iff {b : W} : 0 < ixL bnames b → bdW b = some (ixL bnames b) := by
  intro h
  unfold bdW ixL at *
  cases hi : bnames.idxOf? b with
  | none => rw [hi] at h; simp at h
  | some n =>
    rw [hi] at h
    have hne : ¬ b = [] := by
      rintro rfl
      have : bnames.idxOf? [] = some 0 := by decide
      rw [this] at hi
      cases hi
      simp at h
    simp [hne]
theorem bdB_not {b : W} : ¬ 0 < ixL bnames b → bdW b = none := by
  intro h
  unfold bdW ixL at *
  split
  · rfl
  · rename_i hne
    cases hi : bnames.idxOf? b with
    | none => rfl
    | some n =>
      rw [hi] at h
      have hn : n = 0 := by simp at h; omega
      subst hn
      rw [List.idxOf?, List.findIdx?_eq_some_iff_getElem] at hi
      obtain ⟨_, q, _⟩ := hi
      simp [bnames] at q
      exact absurd q hne
theorem unB_iff {a : W} : unB a = true → unW a = some (unI a) := by
  intro h
  unfold unB unI unW at *
  by_cases h1 : a = [45]
  · simp [h1]
  · simp [h1] at h ⊢
    exact numB_iff h
theorem unB_not {a : W} : unB a = false → unW a = none := by
  intro h
  unfold unB unW at *
  by_cases h1 : a = [45]
  · simp [h1] at h
  · simp [h1] at h ⊢
    exact numB_not h
/-- What the parser of a kind of lines leaves behind. -/
def unitM (m : Mp) : List W → Mp
  | [a] => m.add (.u ⟨(unV a).1, [], 0⟩)
  | [a, b, c] => m.add (.u ⟨(unV a).1, (unV b).1, (atV c).1⟩)
  | _ => m
def symM (m : Mp) : List W → Mp
  | [a, b, c, d, e] => m.add (.s ⟨(unV a).1, ixL bnames b, (atV c).1, (atV d).1, unI e⟩)
  | _ => m
def slotM (m : Mp) : List W → Mp
  | [a, c, d] => m.add (.t ⟨(unV a).1, (atV c).1, (atV d).1⟩)
  | _ => m
theorem unitM_of {m : Mp} {r : List W} {u : U} (h : unitP r = some u) : unitM m r = m.add (.u u) := by
  unfold unitP at h
  split at h
  · rename_i a
    cases ha : nmB a with
    | true => rw [nmB_iff ha] at h; cases h; rfl
    | false => rw [nmB_not ha] at h; cases h
  · rename_i a b c
    cases ha : nmB a with
    | true =>
      cases hb : nmB b with
      | true =>
        cases hc : numOk c with
        | true => rw [nmB_iff ha, nmB_iff hb, numB_iff hc] at h; cases h; rfl
        | false => rw [nmB_iff ha, nmB_iff hb, numB_not hc] at h; cases h
      | false => rw [nmB_iff ha, nmB_not hb] at h; cases h
    | false => rw [nmB_not ha] at h; cases h
  · cases h
theorem symM_of {m : Mp} {r : List W} {u : Sy} (h : symP r = some u) : symM m r = m.add (.s u) := by
  unfold symP at h
  split at h
  · rename_i a b c d e
    cases ha : nmB a with
    | false => rw [nmB_not ha] at h; cases h
    | true =>
      by_cases hb : 0 < ixL bnames b
      · cases hc : numOk c with
        | false => rw [nmB_iff ha, bdB_iff hb, numB_not hc] at h; cases h
        | true =>
          cases hd : numOk d with
          | false => rw [nmB_iff ha, bdB_iff hb, numB_iff hc, numB_not hd] at h; cases h
          | true =>
            cases he : unB e with
            | false => rw [nmB_iff ha, bdB_iff hb, numB_iff hc, numB_iff hd, unB_not he] at h; cases h
            | true => rw [nmB_iff ha, bdB_iff hb, numB_iff hc, numB_iff hd, unB_iff he] at h; cases h; rfl
      · rw [nmB_iff ha, bdB_not hb] at h; cases h
  · cases h
theorem slotM_of {m : Mp} {r : List W} {u : Sl} (h : slotP r = some u) : slotM m r = m.add (.t u) := by
  unfold slotP at h
  split at h
  · rename_i a c d
    cases ha : nmB a with
    | false => rw [nmB_not ha] at h; cases h
    | true =>
      cases hc : numOk c with
      | false => rw [nmB_iff ha, numB_not hc] at h; cases h
      | true =>
        cases hd : numOk d with
        | false => rw [nmB_iff ha, numB_iff hc, numB_not hd] at h; cases h
        | true => rw [nmB_iff ha, numB_iff hc, numB_iff hd] at h; cases h; rfl
  · cases h
theorem unitB (r : List W) : (unitP r).isSome = match r with
    | [a] => nmB a
    | [a, b, c] => nmB a && (nmB b && numOk c)
    | _ => false := by
  unfold unitP
  split
  · rename_i a
    cases ha : nmB a with
    | true => rw [nmB_iff ha]; simp [*]
    | false => rw [nmB_not ha]; simp [*]
  · rename_i a b c
    cases ha : nmB a with
    | false => rw [nmB_not ha]; simp [*]
    | true =>
      rw [nmB_iff ha]
      cases hb : nmB b with
      | false => rw [nmB_not hb]; simp [*]
      | true =>
        rw [nmB_iff hb]
        cases hc : numOk c with
        | false => rw [numB_not hc]; simp [*]
        | true => rw [numB_iff hc]; simp [*]
  · rename_i h1 h2; split <;> first | rfl | exact (h1 _ rfl).elim | exact (h2 _ _ _ rfl).elim
theorem symB (r : List W) : (symP r).isSome = match r with
    | [a, b, c, d, e] => nmB a && (decide (0 < ixL bnames b) && (numOk c && (numOk d && unB e)))
    | _ => false := by
  unfold symP
  split
  · rename_i a b c d e
    cases ha : nmB a with
    | false => rw [nmB_not ha]; simp [*]
    | true =>
      rw [nmB_iff ha]
      by_cases hb : 0 < ixL bnames b
      · rw [bdB_iff hb]
        cases hc : numOk c with
        | false => rw [numB_not hc]; simp [*]
        | true =>
          rw [numB_iff hc]
          cases hd : numOk d with
          | false => rw [numB_not hd]; simp [*]
          | true =>
            rw [numB_iff hd]
            cases he : unB e with
            | false => rw [unB_not he]; simp [*]
            | true => rw [unB_iff he]; simp [*]
      · rw [bdB_not hb]; simp [*]
  · rename_i h1; split <;> first | rfl | exact (h1 _ _ _ _ _ rfl).elim
theorem slotB (r : List W) : (slotP r).isSome = match r with
    | [a, c, d] => nmB a && (numOk c && numOk d)
    | _ => false := by
  unfold slotP
  split
  · rename_i a c d
    cases ha : nmB a with
    | false => rw [nmB_not ha]; simp [*]
    | true =>
      rw [nmB_iff ha]
      cases hc : numOk c with
      | false => rw [numB_not hc]; simp [*]
      | true =>
        rw [numB_iff hc]
        cases hd : numOk d with
        | false => rw [numB_not hd]; simp [*]
        | true => rw [numB_iff hd]; simp [*]
  · rename_i h1; split <;> first | rfl | exact (h1 _ _ _ rfl).elim
theorem unit_c (r : List W) (hr : r.length ≤ 100000) (hw : ∀ w ∈ r, w.length ≤ 100000) (p i j k : Nat) (m : Mp) (ph : Nat) (hm : m.us.length ≤ 100000) (σ : Store) (hp : isP σ p i j k m ph) :
    ACalls E 41 [.rp p 0 0 0, strs r] σ fun a s => a = boolV (unitP r).isSome ∧ s = psP σ p i j k (unitM m r) ph := by
  rw [unitB]
  match r, hr, hw with
  | [], hr, hw => exact unit0_c [] hr (by simp) (by simp) p i j k m ph σ hp
  | [a], hr, hw => exact unit1_c a (hw a (by simp)) p i j k m ph hm σ hp
  | [a, b], hr, hw => exact unit0_c [a, b] hr (by simp) (by simp) p i j k m ph σ hp
  | [a, b, c], hr, hw => exact unit3_c a b c (hw a (by simp)) (hw b (by simp)) (hw c (by simp)) p i j k m ph hm σ hp
  | a :: b :: c :: d :: l, hr, hw => exact unit0_c (a :: b :: c :: d :: l) hr (by simp) (by simp) p i j k m ph σ hp
theorem sym_c (r : List W) (hr : r.length ≤ 100000) (hw : ∀ w ∈ r, w.length ≤ 100000) (p i j k : Nat) (m : Mp) (ph : Nat) (hm : m.ss.length ≤ 100000) (σ : Store) (hp : isP σ p i j k m ph) :
    ACalls E 42 [.rp p 0 0 0, strs r] σ fun a s => a = boolV (symP r).isSome ∧ s = psP σ p i j k (symM m r) ph := by
  rw [symB]
  match r, hr, hw with
  | [], hr, hw => exact symbol0_c [] hr (by simp) p i j k m ph σ hp
  | [a], hr, hw => exact symbol0_c [a] hr (by simp) p i j k m ph σ hp
  | [a, b], hr, hw => exact symbol0_c [a, b] hr (by simp) p i j k m ph σ hp
  | [a, b, c], hr, hw => exact symbol0_c [a, b, c] hr (by simp) p i j k m ph σ hp
  | [a, b, c, d], hr, hw => exact symbol0_c [a, b, c, d] hr (by simp) p i j k m ph σ hp
  | [a, b, c, d, e], hr, hw => exact symbol5_c a b c d e (hw a (by simp)) (hw b (by simp)) (hw c (by simp)) (hw d (by simp)) (hw e (by simp)) p i j k m ph hm σ hp
  | a :: b :: c :: d :: e :: f :: l, hr, hw => exact symbol0_c (a :: b :: c :: d :: e :: f :: l) hr (by simp) p i j k m ph σ hp
theorem slot_c (r : List W) (hr : r.length ≤ 100000) (hw : ∀ w ∈ r, w.length ≤ 100000) (p i j k : Nat) (m : Mp) (ph : Nat) (hm : m.ts.length ≤ 100000) (σ : Store) (hp : isP σ p i j k m ph) :
    ACalls E 43 [.rp p 0 0 0, strs r] σ fun a s => a = boolV (slotP r).isSome ∧ s = psP σ p i j k (slotM m r) ph := by
  rw [slotB]
  match r, hr, hw with
  | [], hr, hw => exact slot0_c [] hr (by simp) p i j k m ph σ hp
  | [a], hr, hw => exact slot0_c [a] hr (by simp) p i j k m ph σ hp
  | [a, b], hr, hw => exact slot0_c [a, b] hr (by simp) p i j k m ph σ hp
  | [a, b, c], hr, hw => exact slot3_c a b c (hw a (by simp)) (hw b (by simp)) (hw c (by simp)) p i j k m ph hm σ hp
  | a :: b :: c :: d :: l, hr, hw => exact slot0_c (a :: b :: c :: d :: l) hr (by simp) p i j k m ph σ hp
theorem spA_len (c : UInt8) : ∀ (cur l : W), ∀ w ∈ spA c cur l, w.length ≤ cur.length + l.length
  | cur, [], w, hw => by simp [spA] at hw; subst hw; simp
  | cur, x :: l, w, hw => by
    rw [spA] at hw
    split at hw
    · rcases List.mem_cons.1 hw with rfl | hw
      · omega
      · have := spA_len c [] l w hw; simp at this ⊢; omega
    · have := spA_len c _ l w hw; simp at this ⊢; omega
theorem sp_len {c : UInt8} {s w : W} (h : w ∈ sp c s) : w.length ≤ s.length := by simpa using spA_len c [] s w h
theorem wnl_get {c : UInt8} : ∀ {l : List W} {i : Nat} {x : W}, l[i]? = some x → (wnl c l)[i]? = some (if i + 1 < l.length then x ++ [c] else x)
  | [], i, x, h => by simp at h
  | [y], i, x, h => by
    cases i with
    | zero => simpa [wnl] using h
    | succ i => simp at h
  | y :: z :: l, i, x, h => by
    cases i with
    | zero => simp at h; subst h; simp [wnl]
    | succ i =>
      have := wnl_get (c := c) (l := z :: l) (i := i) (x := x) (by simpa using h)
      simp only [wnl, List.getElem?_cons_succ, this, List.length_cons]
      congr 1
      simp
theorem wnl_len (c : UInt8) : ∀ l : List W, (wnl c l).length = l.length
  | [] => rfl
  | [x] => rfl
  | x :: y :: l => by have := wnl_len c (y :: l); simp [wnl, this]
theorem tz51 : tzero Tryd.prog 51 = some (.agg #[.int .i64 0, .nilFunc]) := by kernel_rfl
end Go.Proofs.YtebjdgcnnonjoaaDoor
end

section
set_option linter.unusedVariables false
set_option linter.unusedSimpArgs false
set_option linter.unnecessarySimpa false
namespace Go.Proofs.YtebjdgcnnonjoaaDoor
open Go Go.AW
set_option maxRecDepth 100000
set_option maxHeartbeats 100000000

@[simp] theorem frzU' (u : U) : frz (uV u) = uV u := by simp [uV]
@[simp] theorem frzS' (u : Sy) : frz (syV u) = syV u := by simp [syV]
@[simp] theorem frzT' (u : Sl) : frz (slV u) = slV u := by simp [slV]
@[simp] theorem belU' (n : Nat) (u : U) : Bel n (uV u) := bel_uV n u
@[simp] theorem belS' (n : Nat) (u : Sy) : Bel n (syV u) := bel_syV n u
@[simp] theorem belT' (n : Nat) (u : Sl) : Bel n (slV u) := bel_slV n u
theorem isB_al {s : Store} {p i : Nat} {l : W} (hs : StoreBel s) (h : isB s p i l) (o : AObj) : isB (s.alloc o) p i l := by
  obtain ⟨⟨x, hx, h1⟩, h2⟩ := h
  have b1 := (hs _ _ h1).1
  have b2 := (hs _ _ h2).1
  exact ⟨⟨x, hx, by simp [h1, show ¬ p = s.next by omega]⟩, by simp [h2, show ¬ i = s.next by omega]⟩
theorem line_c (ws : List W) (hne : ws ≠ []) (hl : ws.length ≤ 1000) (b i : Nat) (l : W) (hll : l.length + (lnW ws).length ≤ 1000000) (σ : Store) (hw : isB σ b i l) :
    ACalls E 35 [strs ws, .rp b 0 0 0] σ fun a s => a = .tup [] ∧ s = wb σ b i (l ++ lnW ws) := by
  have hj : (lnW ws).length = (jn 32 ws).length + 1 := by simp [lnW]
  have hw' := hw
  refine ACalls.enterA [] Tryd.func35 rfl Tryd.ntmps35 Tryd.results35 hmE (by kernel_rfl) (by simp) fun hσ => ?_
  conv => arg 5; cbv
  simp
  refine Pur.call (Join_p ws 32 hne hl (by omega)) ?_
  simp [show (jn 32 ws).length ≤ 9223372036854775806 by omega]
  refine (WriteString_c (jn 32 ws ++ [10]) b i l (by simp; omega) σ hw).mono ?_
  rintro _ _ ⟨rfl, rfl⟩
  simp
  exact Fin.cut (σ2 := wb σ b i (l ++ lnW ws)) rfl (by simp [lnW]) (wb_bel hσ hw' _) (by simp) ⟨rfl, rfl⟩
theorem prU_snoc {l : List U} {i : Nat} {x : U} (h : l[i]? = some x) : prU (l.take (i + 1)) = prU (l.take i) ++ lnW x.ws := by rw [List.take_add_one, h]; simp [prU]
theorem prS_snoc {l : List Sy} {i : Nat} {x : Sy} (h : l[i]? = some x) : prS (l.take (i + 1)) = prS (l.take i) ++ lnW x.ws := by rw [List.take_add_one, h]; simp [prS]
theorem prT_snoc {l : List Sl} {i : Nat} {x : Sl} (h : l[i]? = some x) : prT (l.take (i + 1)) = prT (l.take i) ++ lnW x.ws := by rw [List.take_add_one, h]; simp [prT]
theorem prU_le (l : List U) (i : Nat) : (prU (l.take i)).length ≤ (prU l).length := by
  have h : prU l = prU (l.take i) ++ prU (l.drop i) := by simp [prU, ← List.flatMap_append]
  rw [h]; simp
theorem prS_le (l : List Sy) (i : Nat) : (prS (l.take i)).length ≤ (prS l).length := by
  have h : prS l = prS (l.take i) ++ prS (l.drop i) := by simp [prS, ← List.flatMap_append]
  rw [h]; simp
theorem prT_le (l : List Sl) (i : Nat) : (prT (l.take i)).length ≤ (prT l).length := by
  have h : prT l = prT (l.take i) ++ prT (l.drop i) := by simp [prT, ← List.flatMap_append]
  rw [h]; simp
theorem jn_mem_len {c : UInt8} {w : W} : ∀ {ws : List W}, w ∈ ws → w.length ≤ (jn c ws).length
  | [x], h => by simp at h; subst h; exact Nat.le_refl _
  | x :: y :: l, h => by
    rw [jn_cons c x (by simp)]
    rcases List.mem_cons.1 h with rfl | h
    · simp
    · have := jn_mem_len (c := c) h; simp; omega
/-- A bound for one line of a text. -/
theorem ln_le {k : Ln} {n : Nat} (h : (lnW k.ws).length ≤ n) : ∀ w ∈ k.ws, w.length ≤ n := fun w hw => by
  have := jn_mem_len (c := 32) hw
  simp [lnW] at h
  omega
theorem len_prU (l : List U) : l.length ≤ (prU l).length := by
  induction l with
  | nil => simp
  | cons x l ih => simp [prU, lnW] at ih ⊢; omega
theorem len_prS (l : List Sy) : l.length ≤ (prS l).length := by
  induction l with
  | nil => simp
  | cons x l ih => simp [prS, lnW] at ih ⊢; omega
theorem len_prT (l : List Sl) : l.length ≤ (prT l).length := by
  induction l with
  | nil => simp
  | cons x l ih => simp [prT, lnW] at ih ⊢; omega
/-- What is known at the head of a round of Print. -/
def prH (σ : Store) (m : Mp) (t : W) (s : Store) : Prop := isB s (σ.next + 1) (σ.next + 2) t ∧ StoreBel s ∧ σ.next + 3 ≤ s.next ∧ s.get σ.next = some (.arr 27 0 [mpV m]) ∧ ∀ n, n < σ.next → s.get n = σ.get n
theorem prH_step {σ s : Store} {m : Mp} {t t' : W} (h : prH σ m t s) {o : AObj} (ho : ObjBel (s.next + 1) o) : prH σ m t' (wb (s.alloc o) (σ.next + 1) (σ.next + 2) t') ∧ isB (s.alloc o) (σ.next + 1) (σ.next + 2) t := by
  obtain ⟨h1, h2, h3, h4, h5⟩ := h
  have hb := isB_al h2 h1 o
  refine ⟨⟨wb_isB h1.ne t', wb_bel (h2.alloc_obj ho) hb t', by simp; omega, ?_, fun n hn => ?_⟩, hb⟩
  · rw [wb_get, if_neg (by omega), if_neg (by omega)]
    simp [show ¬ σ.next = s.next by omega, h4]
  · rw [wb_get, if_neg (by omega), if_neg (by omega)]
    simp [show ¬ n = s.next by omega, h5 n hn]
theorem prH_below {σ s : Store} {m : Mp} {t : W} (h : prH σ m t s) : Below σ s := ⟨by have := h.2.2.1; omega, h.2.2.2.2⟩
theorem Print_p (m : Mp) (hok : m.ok = true) (hm : m.pr.length ≤ 100000) : Pur E 19 [mpV m] (str m.pr) := by
  have hlen : m.pr.length = (prU m.us).length + (prS m.ss).length + (prT m.ts).length + 4 := by simp [Mp.pr, Mp.txt, lnW, jn, wEnd]; omega
  have l1 := len_prU m.us
  have l2 := len_prS m.ss
  have l3 := len_prT m.ts
  refine Pur.enter [6000015, 6000038] Tryd.func19 rfl Tryd.ntmps19 Tryd.results19 hmE (by kernel_rfl) (by simp) (by simp) fun σ hσ => ?_
  conv => arg 5; cbv
  simp [mpV]
  refine loopW.adopt1 (p := σ.next + 1) (T := 79) (g := 0) (cs := [.c (.pointer none), .nl]) (cs' := [.c (.pointer none), .lg (σ.next + 2) []]) 5 (by simp) (by simp [cellsAs]) ?_
  refine loop_e hmE (by kernel_rfl) (0, _) (fun x : Nat × Store => [(16, intV x.1)]) (fun x => x.2) (fun x => x.1 ≤ m.us.length ∧ prH σ m (prU (m.us.take x.1)) x.2) (fun x => m.us.length - x.1) ⟨Nat.zero_le _, ?_⟩ ?_ (Below.refl _) ?_ ?_
  · refine ⟨?_, ?_, by simp, by simp [mpV, show ¬ σ.next = σ.next + 1 + 1 by omega, show ¬ σ.next = σ.next + 2 by omega], fun n hn => by simp [show ¬ n = σ.next by omega, show ¬ n = σ.next + 1 by omega, show ¬ n = σ.next + 2 by omega]⟩
    · refine ⟨⟨_, .inl rfl, by simp [prU]⟩, by simp [prU]⟩
    · refine StoreBel.set_obj (StoreBel.alloc_log (StoreBel.alloc_arr (StoreBel.alloc_arr hσ (by simp)) (by simp)) _ _) (by simp) ?_
      intro e he x hx
      simp at he
      subst he
      simp [AV.cells] at hx
      rcases hx with rfl | rfl
      · exact .c _
      · exact .lg _ _ (by simp) (by simp)
  · rintro x ⟨hx1, hx⟩
    refine ⟨by have := hx.2.2.1; omega, hx.2.1, ?_⟩
    have := hx.2.2.1
    simp
    omega
  · simp
  · rintro ⟨i, s⟩ ⟨hi, hH⟩
    simp only at hi hH
    have hH' := hH
    obtain ⟨k1, k2, k3, k4, k5⟩ := hH'
    have g1 : ¬ σ.next = s.next := by omega
    have g2 : ¬ σ.next + 1 = s.next := by omega
    have g3 : ¬ σ.next + 2 = s.next := by omega
    simp [k4, mpV]
    refine ⟨fun h => ?_, fun h => ?_⟩
    · obtain ⟨u, hu⟩ := get_ex h
      have hsn := prU_snoc hu
      have hle := prU_le m.us (i + 1)
      rw [hsn] at hle
      have hlw : (lnW (Ln.u u).ws).length ≤ 100000 := by
        show (lnW u.ws).length ≤ _
        simp at hle
        omega
      have hwl := ln_le hlw
      have hstep : ∀ o, ObjBel (s.next + 1) o → _ := fun o ho => prH_step (t' := prU (m.us.take i) ++ lnW u.ws) hH ho
      refine ⟨u, hu, ?_⟩
      have hui : inB u.i = true := by
        simp [Mp.ok] at hok
        have := hok.1.1 u (List.mem_of_getElem? hu)
        simp [U.ok] at this
        exact this.1.2
      have hui' := hui
      simp [inB] at hui'
      by_cases hum : u.m = []
      · have hws : u.ws = [wUnit, esc u.f] := by rw [U.ws, if_pos hum]
        have hf : u.f.length ≤ 100000 := by
          have := hwl (esc u.f) (by show esc u.f ∈ u.ws; rw [hws]; simp)
          have := (esc_len u.f).1
          omega
        simp [uV, hum]
        refine Pur.call (Escape_p u.f (by omega)) ?_
        simp
        obtain ⟨q1, q2⟩ := hstep (.arr 74 0 [.agg [str u.f, str [], intV u.i]]) (by intro e he x hx; simp at he; subst he; simp [AV.cells] at hx; rcases hx with rfl | rfl | rfl <;> exact .c _)
        refine (line_c [wUnit, esc u.f] (by simp) (by simp) (σ.next + 1) (σ.next + 2) (prU (m.us.take i)) (by rw [← hws]; simp at hle ⊢; omega) _ q2).mono ?_
        rintro _ _ ⟨rfl, rfl⟩
        rw [hws] at q1 hsn
        simp
        exact ⟨i + 1, _, ⟨⟨h, by rw [hsn]; exact q1⟩, by omega⟩, Below.refl _, wrap_succ h (by omega)⟩
      · have hws : u.ws = [wUnit, esc u.f, esc u.m, nt u.i] := by rw [U.ws, if_neg hum]
        have hf : u.f.length ≤ 100000 := by
          have := hwl (esc u.f) (by show esc u.f ∈ u.ws; rw [hws]; simp)
          have := (esc_len u.f).1
          omega
        have hf2 : u.m.length ≤ 100000 := by
          have := hwl (esc u.m) (by show esc u.m ∈ u.ws; rw [hws]; simp)
          have := (esc_len u.m).1
          omega
        obtain ⟨n, hn⟩ : ∃ n : Nat, u.i = n := ⟨u.i.toNat, by omega⟩
        have hnt : nt u.i = tx 10 n := by rw [hn, nt, if_neg (by omega)]; rfl
        simp [uV, hum]
        refine Pur.q (Escape_p u.f (by omega)) ?_
        simp
        refine Pur.q (Escape_p u.m (by omega)) ?_
        simp
        have hnum := num_p n (by omega)
        rw [← hn] at hnum
        refine Pur.q hnum ?_
        simp
        obtain ⟨q1, q2⟩ := hstep (.arr 74 0 [.agg [str u.f, str u.m, intV u.i]]) (by intro e he x hx; simp at he; subst he; simp [AV.cells] at hx; rcases hx with rfl | rfl | rfl <;> exact .c _)
        rw [hws, hnt] at q1 hsn
        refine callD_of (line_c [wUnit, esc u.f, esc u.m, tx 10 n] (by simp) (by simp) (σ.next + 1) (σ.next + 2) (prU (m.us.take i)) (by rw [← hnt, ← hws]; simp at hle ⊢; omega) _ q2) ?_
        simp
        exact ⟨i + 1, _, ⟨⟨h, by rw [hsn]; exact q1⟩, by omega⟩, Below.refl _, wrap_succ h (by omega)⟩
    · have hi' : i = m.us.length := by omega
      subst hi'
      rw [List.take_length] at hH
      clear k1 k2 k3 k4 k5 g1 g2 g3
      refine loop_e hmE (by kernel_rfl) (0, s) (fun x : Nat × Store => [(45, intV x.1)]) (fun x => x.2) (fun x => x.1 ≤ m.ss.length ∧ prH σ m (prU m.us ++ prS (m.ss.take x.1)) x.2) (fun x => m.ss.length - x.1) ⟨Nat.zero_le _, by simpa [prS] using hH⟩ ?_ (Below.refl _) ?_ ?_
      · rintro x ⟨hx1, hx⟩
        refine ⟨by have := hx.2.2.1; omega, hx.2.1, ?_⟩
        have := hx.2.2.1
        simp
        omega
      · simp
      · clear hH s
        rintro ⟨i, s⟩ ⟨hi, hH⟩
        simp only at hi hH
        have hH' := hH
        obtain ⟨k1, k2, k3, k4, k5⟩ := hH'
        simp [k4, mpV]
        refine ⟨fun h => ?_, fun h => ?_⟩
        · obtain ⟨u, hu⟩ := get_ex h
          have hsn := prS_snoc hu
          have hle := prS_le m.ss (i + 1)
          rw [hsn] at hle
          have hlw : (lnW (Ln.s u).ws).length ≤ 100000 := by
            show (lnW u.ws).length ≤ _
            simp at hle
            omega
          have hwl := ln_le hlw
          refine ⟨u, hu, ?_⟩
          have hoku : u.ok = true := by
            simp [Mp.ok] at hok
            exact hok.1.2 u (List.mem_of_getElem? hu)
          simp only [Sy.ok, Bool.and_eq_true, Bool.or_eq_true, decide_eq_true_eq] at hoku
          obtain ⟨⟨⟨⟨o1, o2⟩, o3⟩, o4⟩, o5⟩ := hoku
          simp [inB] at o3 o4 o5
          have hf : u.n.length ≤ 100000 := by
            have := hwl (esc u.n) (by show esc u.n ∈ u.ws; simp [Sy.ws])
            have := (esc_len u.n).1
            omega
          obtain ⟨z, hz⟩ : ∃ z : Nat, u.z = z := ⟨u.z.toNat, by omega⟩
          obtain ⟨a, ha⟩ : ∃ a : Nat, u.a = a := ⟨u.a.toNat, by omega⟩
          have nz : nt u.z = tx 10 z := by rw [hz, nt, if_neg (by omega)]; rfl
          have na : nt u.a = tx 10 a := by rw [ha, nt, if_neg (by omega)]; rfl
          have pz := num_p z (by omega)
          have pa := num_p a (by omega)
          rw [← hz] at pz
          rw [← ha] at pa
          obtain ⟨q1, q2⟩ := prH_step (t' := prU m.us ++ prS (m.ss.take i) ++ lnW u.ws) hH (o := .arr 68 0 [.agg [str u.n, intV u.b, intV u.z, intV u.a, intV u.u]]) (by intro e he x hx; simp at he; subst he; simp [AV.cells] at hx; rcases hx with rfl | rfl | rfl | rfl | rfl <;> exact .c _)
          have hbnd : bnames[u.b.toNat]? = some (bnd u.b) := by
            have : u.b.toNat < bnames.length := by simp [bnames]; omega
            rw [bnd, if_pos o2, List.getD, List.getElem?_eq_getElem this]; rfl
          have hdrop : List.drop u.b.toNat (List.map str bnames) = str (bnd u.b) :: (bnames.map str).drop (u.b.toNat + 1) := by
            have hm' : (bnames.map str)[u.b.toNat]? = some (str (bnd u.b)) := by rw [List.getElem?_map, hbnd]; rfl
            have e := List.getElem?_eq_some_iff.1 hm'
            rw [List.drop_eq_getElem_cons e.1, e.2]
          have hln : ∀ x, x = nt u.u → u.ws = [wSymbol, esc u.n, bnd u.b, tx 10 z, tx 10 a, x] := by
            rintro x rfl
            simp [Sy.ws, nz, na]
          by_cases hu0 : 0 ≤ u.u
          · obtain ⟨y, hy⟩ : ∃ y : Nat, u.u = y := ⟨u.u.toNat, by omega⟩
            have ny : nt u.u = tx 10 y := by rw [hy, nt, if_neg (by omega)]; rfl
            have py := num_p y (by omega)
            rw [← hy] at py
            simp [syV, hu0]
            refine Pur.call py ?_
            simp
            refine Pur.q (Escape_p u.n (by omega)) ?_
            simp
            refine ⟨by omega, by omega, ?_⟩
            rw [hdrop]
            simp
            refine Pur.q pz ?_
            simp
            refine Pur.q pa ?_
            simp
            have hwsx := hln (tx 10 y) ny.symm
            rw [hwsx] at q1 hsn
            refine callD_of (line_c [wSymbol, esc u.n, bnd u.b, tx 10 z, tx 10 a, tx 10 y] (by simp) (by simp) (σ.next + 1) (σ.next + 2) (prU m.us ++ prS (m.ss.take i)) (by rw [← hwsx]; simp at hle ⊢; omega) _ q2) ?_
            simp
            exact ⟨i + 1, _, ⟨⟨h, by rw [hsn, ← List.append_assoc]; exact q1⟩, by omega⟩, Below.refl _, wrap_succ h (by omega)⟩
          · have hum1 : u.u = -1 := by omega
            have ny : nt u.u = [45] := by rw [hum1]; rfl
            simp [syV, hu0]
            refine Pur.q (Escape_p u.n (by omega)) ?_
            simp
            refine ⟨by omega, by omega, ?_⟩
            rw [hdrop]
            simp
            refine Pur.q pz ?_
            simp
            refine Pur.q pa ?_
            simp
            have hwsx := hln ([45]) ny.symm
            rw [hwsx] at q1 hsn
            refine callD_of (line_c [wSymbol, esc u.n, bnd u.b, tx 10 z, tx 10 a, [45]] (by simp) (by simp) (σ.next + 1) (σ.next + 2) (prU m.us ++ prS (m.ss.take i)) (by rw [← hwsx]; simp at hle ⊢; omega) _ q2) ?_
            simp
            exact ⟨i + 1, _, ⟨⟨h, by rw [hsn, ← List.append_assoc]; exact q1⟩, by omega⟩, Below.refl _, wrap_succ h (by omega)⟩
        · have hi' : i = m.ss.length := by omega
          subst hi'
          rw [List.take_length] at hH
          clear k1 k2 k3 k4 k5
          refine loop_e hmE (by kernel_rfl) (0, s) (fun x : Nat × Store => [(76, intV x.1)]) (fun x => x.2) (fun x => x.1 ≤ m.ts.length ∧ prH σ m (prU m.us ++ prS m.ss ++ prT (m.ts.take x.1)) x.2) (fun x => m.ts.length - x.1) ⟨Nat.zero_le _, by simpa [prT] using hH⟩ ?_ (Below.refl _) ?_ ?_
          · rintro x ⟨hx1, hx⟩
            refine ⟨by have := hx.2.2.1; omega, hx.2.1, ?_⟩
            have := hx.2.2.1
            simp
            omega
          · simp
          · clear hH s
            rintro ⟨i, s⟩ ⟨hi, hH⟩
            simp only at hi hH
            have hH' := hH
            obtain ⟨k1, k2, k3, k4, k5⟩ := hH'
            simp [mpV]
            refine ⟨fun h => ?_, fun h => ?_⟩
            · obtain ⟨u, hu⟩ := get_ex h
              have hsn := prT_snoc hu
              have hle := prT_le m.ts (i + 1)
              rw [hsn] at hle
              have hlw : (lnW (Ln.t u).ws).length ≤ 100000 := by
                show (lnW u.ws).length ≤ _
                simp at hle
                omega
              have hwl := ln_le hlw
              refine ⟨u, hu, ?_⟩
              have hoku : u.ok = true := by
                simp [Mp.ok] at hok
                exact hok.2 u (List.mem_of_getElem? hu)
              simp only [Sl.ok, Bool.and_eq_true, decide_eq_true_eq] at hoku
              obtain ⟨⟨o1, o3⟩, o4⟩ := hoku
              simp [inB] at o3 o4
              have hf : u.n.length ≤ 100000 := by
                have := hwl (esc u.n) (by show esc u.n ∈ u.ws; simp [Sl.ws])
                have := (esc_len u.n).1
                omega
              obtain ⟨z, hz⟩ : ∃ z : Nat, u.o = z := ⟨u.o.toNat, by omega⟩
              obtain ⟨a, ha⟩ : ∃ a : Nat, u.z = a := ⟨u.z.toNat, by omega⟩
              have nz : nt u.o = tx 10 z := by rw [hz, nt, if_neg (by omega)]; rfl
              have na : nt u.z = tx 10 a := by rw [ha, nt, if_neg (by omega)]; rfl
              have pz := num_p z (by omega)
              have pa := num_p a (by omega)
              rw [← hz] at pz
              rw [← ha] at pa
              obtain ⟨q1, q2⟩ := prH_step (t' := prU m.us ++ prS m.ss ++ prT (m.ts.take i) ++ lnW u.ws) hH (o := .arr 70 0 [.agg [str u.n, intV u.o, intV u.z]]) (by intro e he x hx; simp at he; subst he; simp [AV.cells] at hx; rcases hx with rfl | rfl | rfl <;> exact .c _)
              have hwsx : u.ws = [wSlot, esc u.n, tx 10 z, tx 10 a] := by simp [Sl.ws, nz, na]
              simp [slV]
              refine Pur.q (Escape_p u.n (by omega)) ?_
              simp
              refine Pur.q pz ?_
              simp
              refine Pur.q pa ?_
              simp
              rw [hwsx] at q1 hsn
              refine callD_of (line_c [wSlot, esc u.n, tx 10 z, tx 10 a] (by simp) (by simp) (σ.next + 1) (σ.next + 2) (prU m.us ++ prS m.ss ++ prT (m.ts.take i)) (by rw [← hwsx]; simp at hle ⊢; omega) _ q2) ?_
              simp
              exact ⟨i + 1, _, ⟨⟨h, by rw [hsn]; simp only [List.append_assoc] at q1 ⊢; exact q1⟩, by omega⟩, Below.refl _, wrap_succ h (by omega)⟩
            · have hi' : i = m.ts.length := by omega
              subst hi'
              rw [List.take_length] at hH
              have q2 := hH.1
              refine (line_c [wEnd] (by simp) (by simp) (σ.next + 1) (σ.next + 2) (prU m.us ++ prS m.ss ++ prT m.ts) (by simp [lnW, jn, wEnd]; omega) _ q2).mono ?_
              rintro _ _ ⟨rfl, rfl⟩
              have hT : prU m.us ++ prS m.ss ++ prT m.ts ++ lnW [wEnd] = m.pr := rfl
              rw [hT]
              have hne : m.pr ≠ [] := by rw [← hT]; simp [lnW]
              have hB := wb_isB q2.ne m.pr (σ := s)
              simp
              refine (String_c (σ.next + 1) (σ.next + 2) m.pr hne (by omega) _ hB).mono ?_
              rintro _ _ ⟨rfl, rfl⟩
              simp
              exact ⟨by simp; omega, fun n hn => by rw [wb_get, if_neg (by omega), if_neg (by omega)]; exact k5 n hn⟩
end Go.Proofs.YtebjdgcnnonjoaaDoor
end

section
set_option linter.unusedVariables false
set_option linter.unusedSimpArgs false
set_option linter.unnecessarySimpa false
namespace Go.Proofs.YtebjdgcnnonjoaaDoor
open Go Go.AW
set_option maxRecDepth 100000
set_option maxHeartbeats 100000000

/-- Structs that are compared. -/
@[simp] theorem eqT_u : eqT Tryd.prog 74 = some [.str, .str, .int .i64] := by kernel_rfl
@[simp] theorem eqT_s : eqT Tryd.prog 68 = some [.str, .int .i64, .int .i64, .int .i64, .int .i64] := by kernel_rfl
@[simp] theorem eqT_l : eqT Tryd.prog 71 = some [.str, .int .i64, .int .i64] := by kernel_rfl
theorem SameU_p (a b : List U) (ha : a.length ≤ 1000000) : Pur E 30 [.ps (a.map uV), .ps (b.map uV)] (boolV (a == b)) := by
  refine Pur.enter [] Tryd.func30 rfl Tryd.ntmps30 Tryd.results30 hmE (by kernel_rfl) (by simp) (by simp) fun σ hσ => ?_
  conv => arg 5; cbv
  simp
  refine ⟨fun h e => h (by rw [e]), fun hl => ?_⟩
  refine loop_n hmE (by kernel_rfl) a.length (fun i => [(5, intV i)]) (fun i => i ≤ a.length ∧ a.take i = b.take i) (Nat.le_refl _) hσ (by simp) (by simp) (by simp) fun i ⟨hi, he⟩ => ?_
  simp
  refine ⟨fun h => ?_, fun h => ?_⟩
  · obtain ⟨x, hx⟩ := get_ex h
    obtain ⟨y, hy⟩ := get_ex (l := b) (i := i) (by omega)
    refine ⟨x, hx, by simp [uV], by simp [uV], y, hy, by simp [uV], by simp [uV], ?_⟩
    have hxy : x = y ↔ (x.f = y.f ∧ x.m = y.m ∧ x.i = y.i) := by cases x; cases y; simp
    simp [uV, eqAll, eqK]
    have hw := wrap_succ h (by omega)
    refine ⟨fun hor e => ?_, fun e0 e1 e2 => ⟨hw, ⟨h, ?_⟩, by omega⟩⟩
    · have : x = y := by rw [e, hy] at hx; exact (Option.some.inj hx).symm
      have := hxy.1 this
      simp [this] at hor
    · have : x = y := hxy.2 ⟨e0, e1, e2⟩
      rw [List.take_add_one, List.take_add_one, hx, hy, he, this]
  · rw [List.take_of_length_le h, List.take_of_length_le (by omega)] at he
    exact he
theorem SameL_p (a b : List Sl) (ha : a.length ≤ 1000000) : Pur E 31 [.ps (a.map slV), .ps (b.map slV)] (boolV (a == b)) := by
  refine Pur.enter [] Tryd.func31 rfl Tryd.ntmps31 Tryd.results31 hmE (by kernel_rfl) (by simp) (by simp) fun σ hσ => ?_
  conv => arg 5; cbv
  simp
  refine ⟨fun h e => h (by rw [e]), fun hl => ?_⟩
  refine loop_n hmE (by kernel_rfl) a.length (fun i => [(5, intV i)]) (fun i => i ≤ a.length ∧ a.take i = b.take i) (Nat.le_refl _) hσ (by simp) (by simp) (by simp) fun i ⟨hi, he⟩ => ?_
  simp
  refine ⟨fun h => ?_, fun h => ?_⟩
  · obtain ⟨x, hx⟩ := get_ex h
    obtain ⟨y, hy⟩ := get_ex (l := b) (i := i) (by omega)
    refine ⟨x, hx, by simp [slV], by simp [slV], y, hy, by simp [slV], by simp [slV], ?_⟩
    have hxy : x = y ↔ (x.n = y.n ∧ x.o = y.o ∧ x.z = y.z) := by cases x; cases y; simp
    simp [slV, eqAll, eqK]
    have hw := wrap_succ h (by omega)
    refine ⟨fun hor e => ?_, fun e0 e1 e2 => ⟨hw, ⟨h, ?_⟩, by omega⟩⟩
    · have : x = y := by rw [e, hy] at hx; exact (Option.some.inj hx).symm
      have := hxy.1 this
      simp [this] at hor
    · have : x = y := hxy.2 ⟨e0, e1, e2⟩
      rw [List.take_add_one, List.take_add_one, hx, hy, he, this]
  · rw [List.take_of_length_le h, List.take_of_length_le (by omega)] at he
    exact he
theorem Same_p (a b : Mp) (h1 : a.us.length ≤ 1000000) (h2 : a.ss.length ≤ 1000000) (h3 : a.ts.length ≤ 1000000) : Pur E 13 [mpV a, mpV b] (boolV (a == b)) := by
  have hab : a = b ↔ (a.us = b.us ∧ a.ss = b.ss ∧ a.ts = b.ts) := by cases a; cases b; simp
  have hbq : (a == b) = decide (a.us = b.us ∧ a.ss = b.ss ∧ a.ts = b.ts) := by rw [Bool.eq_iff_iff]; simp [hab]
  rw [hbq]
  refine Pur.enter [] Tryd.func13 rfl Tryd.ntmps13 Tryd.results13 hmE (by kernel_rfl) (by simp) (by simp) fun σ hσ => ?_
  conv => arg 5; cbv
  simp [mpV]
  refine Pur.call (SameU_p a.us b.us h1) ?_
  by_cases e1 : a.us = b.us
  · simp [e1]
    by_cases e2 : a.ss.length = b.ss.length
    · have e2' : (a.ss.length : Int) = b.ss.length := by omega
      simp [e2, e2']
      refine Pur.call (SameL_p a.ts b.ts h3) ?_
      by_cases e3 : a.ts = b.ts
      · simp [e3]
        have hl : (a.ss.length : Int) = b.ss.length := e2'
        refine loop_x hmE (by kernel_rfl) (· + 1) 0 (fun i : Nat => [(5, intV i)]) (fun _ => _) (fun i : Nat => i ≤ a.ss.length ∧ a.ss.take i = b.ss.take i) (fun i => a.ss.length - i) (by simp) (fun i hi => ⟨by simp, (hσ.alloc_arr (by simp)).alloc_arr (by simp), by simp⟩) (Below.refl _) (by simp) fun i hi => ?_
        obtain ⟨hi, he⟩ := hi
        simp
        refine ⟨fun h => ?_, fun h => ?_⟩
        · obtain ⟨x, hx⟩ := get_ex h
          obtain ⟨y, hy⟩ := get_ex (l := b.ss) (i := i) (by omega)
          refine ⟨x, hx, by simp [syV], by simp [syV], y, hy, by simp [syV], by simp [syV], ?_⟩
          have hxy : x = y ↔ (x.n = y.n ∧ x.b = y.b ∧ x.z = y.z ∧ x.a = y.a ∧ x.u = y.u) := by cases x; cases y; simp
          simp [syV, eqAll, eqK]
          have hw : IntKind.i64.wrap ((i : Int) + 1) = (i : Int) + 1 := wrap64_id (by omega) (by omega)
          refine ⟨fun hor e => ?_, fun f0 f1 f2 f3 f4 => ⟨hw, ⟨h, ?_⟩, by omega⟩⟩
          · have : x = y := by rw [e, hy] at hx; exact (Option.some.inj hx).symm
            have := hxy.1 this
            simp [this] at hor
          · have : x = y := hxy.2 ⟨f0, f1, f2, f3, f4⟩
            rw [List.take_add_one, List.take_add_one, hx, hy, he, this]
        · rw [List.take_of_length_le h, List.take_of_length_le (by omega)] at he
          exact he
      · simp [e3]
    · have e2' : ¬ (a.ss.length : Int) = b.ss.length := by omega
      simp [e2, e2']
      intro e
      exact absurd (by rw [e]) e2
  · simp [e1]
theorem back_p (m : Mp) (h : m.ts.length ≤ 100000) : Pur E 14 [mpV m] (mpV m) := by
  refine Pur.enter [] Tryd.func14 rfl Tryd.ntmps14 Tryd.results14 hmE (by kernel_rfl) (by simp) (fun _ => by refine .agg _ ?_; intro a ha; simp at ha; rcases ha with rfl | rfl | rfl <;> exact .ps _ (by simp)) fun σ hσ => ?_
  conv => arg 5; cbv
  simp [mpV]
  refine loopW.adopt1 (p := σ.next + 2) (T := 33) (g := 0) (cs := [.ps (m.us.map uV), .ps (m.ss.map syV), .nl]) (cs' := [.ps (m.us.map uV), .ps (m.ss.map syV), .lg (σ.next + 3) []]) 71 (by simp) (by simp [cellsAs]) ?_
  obtain ⟨A, hA⟩ : ∃ A, A = m.us.map uV := ⟨_, rfl⟩
  obtain ⟨B, hB⟩ : ∃ B, B = m.ss.map syV := ⟨_, rfl⟩
  have bA : ∀ n, ∀ a ∈ A, Bel n a := by intro n a ha; rw [hA] at ha; simp at ha; obtain ⟨u, _, rfl⟩ := ha; simp
  have bB : ∀ n, ∀ a ∈ B, Bel n a := by intro n a ha; rw [hB] at ha; simp at ha; obtain ⟨u, _, rfl⟩ := ha; simp
  have fA : frzL A = A := by rw [hA]; simp [frzL_eq]
  have fB : frzL B = B := by rw [hB]; simp [frzL_eq]
  rw [← hA, ← hB]
  refine loop_e hmE (by kernel_rfl) (0, _) (fun x : Nat × Store => [(4, intV x.1)]) (fun x => x.2)
    (fun x => x.1 ≤ m.ts.length ∧ StoreBel x.2 ∧ σ.next + 4 ≤ x.2.next ∧ x.2.get σ.next = some (.arr 27 0 [.agg [.ps A, .ps B, .ps (m.ts.map slV)]]) ∧ x.2.get (σ.next + 1) = some (.arr 33 0 [.agg [.nl, .nl, .nl]]) ∧
      x.2.get (σ.next + 2) = some (.arr 33 0 [.agg [.ps A, .ps B, .lg (σ.next + 3) ((m.ts.take x.1).map slV)]]) ∧ x.2.get (σ.next + 3) = some (.log 71 x.1) ∧ ∀ n, n < σ.next → x.2.get n = σ.get n) (fun x => m.ts.length - x.1) ⟨Nat.zero_le _, ?_, by simp, by simp [show ¬ σ.next = σ.next + 1 + 2 by omega, show ¬ σ.next = σ.next + 2 by omega, show ¬ σ.next = σ.next + 1 + 1 by omega, show ¬ σ.next = σ.next + 3 by omega], by simp, by simp, by simp, ?_⟩ ?_ (Below.refl _) (by simp) ?_
  · refine StoreBel.set_obj (StoreBel.alloc_log (StoreBel.alloc_arr (StoreBel.alloc_arr (StoreBel.alloc_arr hσ ?_) (by simp)) ?_) _ _) (by simp) ?_
    · intro e he x hx
      simp at he; subst he; simp [AV.cells] at hx
      rcases hx with rfl | rfl | rfl
      · exact .ps _ (bA _)
      · exact .ps _ (bB _)
      · exact .ps _ (by simp)
    · intro e he x hx
      simp at he; subst he; simp [AV.cells] at hx
      rcases hx with rfl | rfl | rfl
      · exact .ps _ (bA _)
      · exact .ps _ (bB _)
      · exact .nl
    · intro e he x hx
      simp at he; subst he; simp [AV.cells] at hx
      rcases hx with rfl | rfl | rfl
      · exact .ps _ (bA _)
      · exact .ps _ (bB _)
      · exact .lg _ _ (by simp) (by simp)
  · intro n hn
    simp [show ¬ n = σ.next by omega, show ¬ n = σ.next + 1 by omega, show ¬ n = σ.next + 2 by omega, show ¬ n = σ.next + 3 by omega]
  · rintro x ⟨x1, x2, x3, _⟩
    refine ⟨by omega, x2, ?_⟩
    simp
    omega
  · rintro ⟨i, s⟩ ⟨x1, x2, x3, x4, x5, x6, x7, x8⟩
    simp only at x1 x2 x3 x4 x5 x6 x7 x8
    simp [x4]
    refine ⟨fun h => ?_, fun h => ?_⟩
    · obtain ⟨u, hu⟩ := get_ex h
      have hmin : min i m.ts.length = i := by omega
      simp [x4, x6, x7, hu, slV, hmin]
      refine ⟨by omega, by omega, i + 1, _, ⟨⟨h, ?_, ?_, ?_, ?_, ?_, ?_, ?_⟩, by omega⟩, Below.refl _, wrap_succ h (by omega)⟩
      · refine StoreBel.set_obj (StoreBel.set_obj x2 (by omega) ?_) (by simp; omega) trivial
        intro e he x hx
        simp at he; subst he; simp [AV.cells] at hx
        rcases hx with rfl | rfl | rfl
        · exact .ps _ (bA _)
        · exact .ps _ (bB _)
        · refine .lg _ _ (by omega) ?_
          intro a ha
          simp at ha
          rcases ha with ha | rfl
          · obtain ⟨v, _, rfl⟩ := List.mem_map.1 (List.mem_of_mem_take ha)
            simp
          · simp
      · simpa using x3
      · simp [x4, show ¬ σ.next = σ.next + 2 by omega, show ¬ σ.next = σ.next + 3 by omega]
      · simp [x5, show ¬ σ.next + 1 = σ.next + 2 by omega, show ¬ σ.next + 1 = σ.next + 3 by omega]
      · have e : (m.ts.take (i + 1)).map slV = (m.ts.take i).map slV ++ [slV u] := by rw [List.take_add_one, hu]; simp
        simp at e
        simp [e, slV]
      · simp
      · intro n hn
        simp [show ¬ n = σ.next + 2 by omega, show ¬ n = σ.next + 3 by omega, x8 n hn]
    · have hi' : i = m.ts.length := by omega
      subst hi'
      simp [x5, x6, fA, fB]
      exact ⟨by omega, x8⟩
end Go.Proofs.YtebjdgcnnonjoaaDoor
end
