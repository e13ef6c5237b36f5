/- The laws. No condition. -/
import Derived.Test.YtkbklfodaemkoaaDoorA11
set_option linter.unusedVariables false
set_option linter.unusedSimpArgs false
set_option linter.unnecessarySimpa false
namespace Go.Proofs.YtkbklfodaemkoaaDoor
open Go Go.AW
set_option maxRecDepth 100000
set_option maxHeartbeats 8000000

theorem fitsI_lt {l : List M} (h : (fitsI l).2 ≠ 0) : ∃ (i : Nat) (m : M), fitsI l = ((i : Int), badE m) ∧ l[i]? = some m ∧ badE m ≠ 0 ∧ ∀ x ∈ l.take i, badE x = 0 := by
  induction l with
  | nil => simp [fitsI] at h
  | cons m l ih =>
    by_cases hb : badE m = 0
    · have h' : (fitsI l).2 ≠ 0 := by
        intro h2
        simp [fitsI, hb, h2] at h
      obtain ⟨i, x, h1, h2, h3, h4⟩ := ih h'
      refine ⟨i + 1, x, ?_, by simpa using h2, h3, ?_⟩
      · simp [fitsI, hb, h1, h3]
      · intro y hy
        simp at hy
        rcases hy with rfl | hy
        · exact hb
        · exact h4 y hy
    · exact ⟨0, m, by simp [fitsI, hb], rfl, hb, by simp⟩
theorem fewM_sub {l l' : List M} (h : fewM l) (hl : l'.length ≤ l.length) (hs : ∀ m ∈ l', m ∈ l) : fewM l' := ⟨Nat.le_trans hl h.1, fun m hm => h.2 m (hs m hm)⟩
theorem FitsL_p (l : List M) (hll : l.length ≤ 9223372036854775807) (hb : inR l) : Pur E 4 [memsV l] (boolV true) := by
  refine Pur.enter [] Tryd.func4 rfl Tryd.ntmps4 Tryd.results4 hmE (by kernel_rfl) (by simp) (by simp) fun σ hσ => ?_
  conv => arg 5; cbv
  simp
  refine Pur.call awake_p ?_
  simp
  refine Pur.call (Few_p l hll) ?_
  simp
  refine ⟨fun hf => ?_, fun hf => ?_⟩
  · refine Pur.call awake_p ?_
    simp
  · obtain ⟨hl, _⟩ := few_of hf hb
    refine Pur.call (AFits_p l hl) ?_
    simp
    refine ⟨fun h0 => ?_, fun h0 => ?_⟩
    · have hw := Write_p false [] l (by simp) hl
      simp at hw
      refine Pur.call hw ?_
      simp [fits_none (fits_ok h0)]
    · obtain ⟨i, m, h1, h2, h3, h4⟩ := fitsI_lt h0
      have hi := (List.getElem?_eq_some_iff.1 h2).1
      rw [h1]
      simp
      have e1 : badE m ≠ 0 := h3
      have hmm : m ∈ l := List.mem_of_getElem? h2
      have hw1 := Write_p false [] (l.take i) (by simp) (fewM_sub hl (by simp; omega) fun x hx => List.mem_of_mem_take hx)
      have hw2 := Write_p false [] [m] (by simp) (fewM_sub hl (by simp; omega) fun x hx => by simp at hx; subst hx; exact hmm)
      have ho := Offsets_p false 0 l (by omega) hl
      have f1 : fitsI (l.take i) = (-1, 0) := fits_none h4
      have f2 : fitsI [m] = (0, badE m) := by simp [fitsI, h3]
      have o0 : offsP false 0 l = [] := by rw [offsP, h1, if_neg h3]
      unfold outV at hw1 hw2
      rw [f1] at hw1
      rw [f2] at hw2
      rw [o0] at ho
      simp at hw1 hw2 ho
      have hwi : IntKind.i64.wrap ((i : Int) + 1) = (i : Int) + 1 := wrap64_id (by omega) (by omega)
      refine ⟨hi, fun _ => ⟨by omega, ?_⟩⟩
      refine Pur.call hw1 ?_
      have hsl : List.drop i (List.take (i + 1) (List.map memV l)) = [memV m] := by
        rw [List.take_add_one, List.getElem?_map, h2, List.drop_append, List.drop_of_length_le (by simp; omega)]
        have : i - (List.take i (List.map memV l)).length = 0 := by simp; omega
        rw [this]
        simp
      simp at hsl
      simp [hwi, hsl]
      refine ⟨by omega, by omega, ?_⟩
      refine Pur.call hw2 ?_
      simp
      refine Pur.call ho ?_
      simp
end Go.Proofs.YtkbklfodaemkoaaDoor
