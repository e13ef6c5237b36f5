/- Escaped names: the law. No condition. -/
import Derived.Test.YtebjdgcnnonjoaaDoorN8
set_option linter.unusedVariables false
set_option linter.unusedSimpArgs false
set_option linter.unnecessarySimpa false
namespace Go.Proofs.YtebjdgcnnonjoaaDoor
open Go Go.AW
set_option maxRecDepth 100000
set_option maxHeartbeats 100000000

theorem Escapes_p (s : W) : Pur E 4 [str s] (boolV true) := by
  refine Pur.enter [] Tryd.func4 rfl Tryd.ntmps4 Tryd.results4 hmE (by kernel_rfl) (by simp) (fun _ => .c _) fun σ hσ => ?_
  conv => arg 5; cbv
  simp
  refine Pur.call awake_p ?_
  simp
  refine ⟨fun h => ?_, fun h => ?_⟩
  · refine Pur.call awake_p ?_
    simp
  · have hb := esc_bytes s
    have hl := esc_len s
    refine Pur.call (Escape_p s (by omega)) ?_
    simp
    have u1 := Unescape_p (esc s) (by omega)
    rw [unV, un_esc] at u1
    refine Pur.call u1 ?_
    simp
    obtain ⟨w, hw⟩ : ∃ w, w = esc s := ⟨_, rfl⟩
    rw [← hw] at hb hl ⊢
    refine loop_n hmE (by kernel_rfl) w.length (fun i => [(6, intV i)]) (fun i => i ≤ w.length) (Nat.le_refl _) hσ (Nat.zero_le _) (by simp) (by simp) fun i hi => ?_
    simp
    refine ⟨fun h => ?_, fun h => ?_⟩
    · obtain ⟨x, hx⟩ := get_ex h
      have := hb x (List.mem_of_getElem? hx)
      have hw : IntKind.i64.wrap ((i : Int) + 1) = (i : Int) + 1 := wrap64_id (by omega) (by omega)
      simp [hx]
      omega
    · refine Pur.call (Unescape_p s (by omega)) ?_
      cases hu : un s with
      | none => simp [unV, hu]
      | some o =>
        simp [unV, hu]
        have e := esc_un s o hu
        have ol := un_len hu
        refine Pur.call (Escape_p o (by omega)) ?_
        simp [e]
end Go.Proofs.YtebjdgcnnonjoaaDoor
