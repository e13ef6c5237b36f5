/- The complete archive as the caller's own bytes. No condition. -/
import Derived.Test.YtcjdagpadnahfaaGreatDoorB14
import Derived.Test.YtcjdagpadnahfaaGreatDoorGD
set_option linter.unusedVariables false
set_option linter.unusedSimpArgs false
set_option linter.unnecessarySimpa false
namespace Go.Proofs.YtcjdagpadnahfaaGreatDoor
open Go Go.AW
set_option maxRecDepth 100000
set_option maxHeartbeats 8000000

theorem SameMember_p (x : M) (hx : x.data.length ≤ 1000000000) : Pur E 47 [memV x, memV x] (boolV true) := by
  have hS := Same_p x.data x.data (by omega)
  simp at hS
  refine Pur.enter [] Tryz.func47 rfl Tryz.ntmps47 Tryz.results47 hmE (by kernel_rfl) (by simp) (by simp) fun σ hσ => ?_
  conv => arg 5; cbv
  simp
  refine Pur.call hS ?_
  simp
theorem SameMembers_p (a : List M) (ha : fewM a) : Pur E 22 [memsV a, memsV a] (boolV true) := by
  refine Pur.enter [6000047] Tryz.func22 rfl Tryz.ntmps22 Tryz.results22 hmE (by kernel_rfl) (by simp) (by simp) fun σ hσ => ?_
  conv => arg 5; cbv
  simp
  refine loop_n hmE (by kernel_rfl) a.length (fun i => [(5, intV i)]) (fun i => i ≤ a.length) (by simp) hσ (by simp) (by simp) (by simp) fun i hi => ?_
  simp
  intro h
  have hal := ha.1
  obtain ⟨x, hx⟩ := get_ex h
  have hxl := (ha.2 x (List.mem_of_getElem? hx)).2.2.2.2.2
  have hs := SameMember_p x (by omega)
  simp at hs
  refine ⟨x, hx, x, hx, ?_⟩
  refine Pur.q hs ?_
  simp
  exact ⟨wrap_succ h (by omega), h, by omega⟩
/-- The first k bytes are one more. -/
def incL (L : W) (k : Nat) : W := (L.take k).map (· + 1) ++ L.drop k
end Go.Proofs.YtcjdagpadnahfaaGreatDoor
