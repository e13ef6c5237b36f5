/- The laws of the index. No condition. -/
import Derived.Test.YtcjdagpadnahfaaGreatDoorB12
set_option linter.unusedVariables false
set_option linter.unusedSimpArgs false
set_option linter.unnecessarySimpa false
namespace Go.Proofs.YtcjdagpadnahfaaGreatDoor
open Go Go.AW
set_option maxRecDepth 100000
set_option maxHeartbeats 8000000

theorem few_of {l : List M} (h : few20 l = true) (hb : ∀ m ∈ l, m.t < 9223372036854775808 ∧ m.u < 9223372036854775808 ∧ m.g < 9223372036854775808 ∧ m.m < 9223372036854775808) : fewM l ∧ l.length ≤ 20 := by
  simp [few20] at h
  obtain ⟨h1, h2, h3⟩ := h
  refine ⟨⟨by omega, fun m hm => ?_⟩, h2⟩
  have := hb m hm
  have := h1 m hm
  exact ⟨by omega, by omega, by omega, by omega, by omega, by omega⟩
/-- Whole numbers as they are. -/
def inR (l : List M) : Prop := ∀ m ∈ l, m.t < 9223372036854775808 ∧ m.u < 9223372036854775808 ∧ m.g < 9223372036854775808 ∧ m.m < 9223372036854775808
theorem fewD_of {l : List M} (h : few20 l = true) (hb : inR l) : fewD l := by
  refine ⟨(few_of h hb).1, ?_⟩
  simp [few20] at h
  have := namesL_len (l.map M.data)
  simp [szs, Function.comp_def] at h this
  unfold nmsD
  omega
theorem awM_few : fewD awM ∧ fewD [] ∧ fewD [⟨[], 0, 0, 0, 0, []⟩] := by
  refine ⟨⟨by simp [fewM, awM, M.lim, awO], by rw [awM_defs.1]; simp⟩, ⟨by simp [fewM], by rw [awM_defs.2.1]; simp⟩, ⟨by simp [fewM, M.lim], by rw [awM_defs.2.2.1]; simp⟩⟩
theorem awake_p : Pur E 10 [] (boolV true) := by
  obtain ⟨f1, f2, f3⟩ := awM_few
  have hE := Encode6_p awL [] (by simp [awL]) (by simp)
  rw [awO_is.1, awO_is.2] at hE
  have hC := Complete_p [] f2
  rw [aw_nil, awM_fits.2.1] at hC
  have hI := Index8_p awM f1
  rw [awM_idx, awM_fits.1] at hI
  have hA1 := At_p awM f1 148
  have hA2 := At_p awM f1 147
  rw [atV, aw_at.1] at hA1
  rw [atV, aw_at.2] at hA2
  have hI2 := Index8_p _ f3
  rw [idx, awM_fits.2.2, if_neg (by decide)] at hI2
  have hD1 := Defs_p awO (by simp [awO])
  rw [awO_defs] at hD1
  have hD2 := Defs_p [116, 101, 120, 116] (by simp)
  rw [awM_defs.2.2.2] at hD2
  have hT := Texts_p [[102], [104]] [[102], [104]] (by simp)
  have hS := Same_p magic magic (by simp [magic])
  have hS7 := Same7_p [⟨[102], 148⟩, ⟨[104], 148⟩] [⟨[102], 148⟩, ⟨[104], 148⟩] (by simp)
  simp [awL, awM] at hE hC hI hA1 hA2 hI2 hD1 hD2 hT hS hS7
  have hMg := Magic_p
  simp at hMg
  obtain ⟨O, hO⟩ : ∃ O, O = awO := ⟨_, rfl⟩
  rw [← hO] at hE hI hA1 hA2 hD1
  refine Pur.enter [1000023, 1000059] Tryz.func10 rfl Tryz.ntmps10 Tryz.results10 hmE (by kernel_rfl) (by simp) (by simp) fun σ hσ => ?_
  conv => arg 5; cbv
  simp
  refine Pur.call hE ?_
  simp
  refine Pur.call hC ?_
  simp
  refine Pur.call hI ?_
  simp
  refine Pur.call hA1 ?_
  simp
  refine Pur.call hA2 ?_
  simp
  refine Pur.call hI2 ?_
  simp
  first | refine Pur.call hD1 ?_ | refine Pur.d hD1 ?_
  simp
  first | refine Pur.call hT ?_ | refine Pur.d hT ?_
  simp
  first | refine Pur.call hD2 ?_ | refine Pur.d hD2 ?_
  simp
  first | refine Pur.call hMg ?_ | refine Pur.d hMg ?_
  simp
  first | refine Pur.call hS ?_ | refine Pur.d hS ?_
  simp
  first | refine Pur.call hS7 ?_ | refine Pur.d hS7 ?_
  simp
end Go.Proofs.YtcjdagpadnahfaaGreatDoor
