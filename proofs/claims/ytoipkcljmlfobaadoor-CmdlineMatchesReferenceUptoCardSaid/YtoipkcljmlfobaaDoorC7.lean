/- The fixed results that the law looks for first. No condition. -/
import Derived.Test.YtoipkcljmlfobaaDoorC6
import Derived.Test.YtoipkcljmlfobaaDoorS1
import Derived.Test.YtoipkcljmlfobaaDoorAw20
set_option linter.unusedVariables false
set_option linter.unusedSimpArgs false
namespace Go.Proofs.YtoipkcljmlfobaaDoor
open Go Go.AW
set_option maxRecDepth 100000
set_option maxHeartbeats 8000000

def fo : W := [97, 46, 111]
def fx : W := [120, 46, 97]
def fy : W := [121, 46, 97]
theorem pa1 : pres [fo, bW1, fx, fy, eW1] = ([(false, [fo], [0]), (true, [fx, fy], [2, 3])], 0, 0) := by decide +kernel
theorem pa2 : pres [fo, bW1, fx] = ([], 1, 14) := by decide +kernel
theorem pa3 : pres [fo, eW1] = ([], 1, 14) := by decide +kernel
theorem pa4 : pres [fo, [], eW1] = ([], 1, 13) := by decide +kernel
theorem same_refl (a : List Item) (b : Bool) : sameB a a b = true := by simp [sameB]

theorem awake_c (σ : Store) : ACalls E 8 [] σ fun r σ' => r = .c (.bool true) ∧ σ' = σ := by
  refine ACalls.enter Tryd.func8 rfl Tryd.ntmps8 Tryd.results8 (by simp) fun hσ => ?_
  refine AW.stepL [] [] fun K hK => ?_
  simp
  refine hK _ _ ?_; clear hK
  refine AW.stepL [] [1, 2, 3] fun K hK => ?_
  simp
  refine (Parse_c [fo, bW1, fx, fy, eW1] (by simp) σ).mono ?_
  rintro r σ' ⟨rfl, rfl⟩
  rw [pa1]
  simp
  refine hK _ _ ?_; clear hK
  refine AW.stepL [] [1, 2, 3, 5, 6] fun K hK => ?_
  simp
  refine (Parse_c [fo, bW1, fx] (by simp) σ').mono ?_
  rintro r σ ⟨rfl, rfl⟩
  rw [pa2]
  simp
  refine hK _ _ ?_; clear hK
  refine AW.stepL [] [1, 2, 3, 5, 6, 8, 9] fun K hK => ?_
  simp
  refine (Parse_c [fo, eW1] (by simp) σ).mono ?_
  rintro r σ' ⟨rfl, rfl⟩
  rw [pa3]
  simp
  refine hK _ _ ?_; clear hK
  refine AW.stepL [] [1, 2, 3, 5, 6, 8, 9, 11, 12] fun K hK => ?_
  simp
  refine (Parse_c [fo, [], eW1] (by simp) σ').mono ?_
  rintro r σ ⟨rfl, rfl⟩
  rw [pa4]
  simp
  refine hK _ _ ?_; clear hK
  refine AW.stepL [] [0] fun K hK => ?_
  simp
  refine (items_c [(false, [fo], [0]), (true, [fx, fy], [2, 3])] (by simp) σ).mono ?_
  rintro r σ' ⟨rfl, rfl⟩
  simp
  refine (Same_c [(false, [fo], [0]), (true, [fx, fy], [2, 3])] [(false, [fo], [0]), (true, [fx, fy], [2, 3])] true ⟨by simp, by simp⟩ ⟨by simp, by simp⟩ σ').mono ?_
  rintro r σ ⟨rfl, rfl⟩
  rw [same_refl]
  simp
  refine hK _ _ ?_; clear hK
  refine AW.ret ?_
  simp
  exact Fin.same (Nat.le_refl _) ⟨rfl, rfl⟩
end Go.Proofs.YtoipkcljmlfobaaDoor
