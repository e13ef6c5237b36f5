/- The copies of items, their words and files in the reference, and their comparison. No condition. -/
import Derived.Test.YtoipkcljmlfobaaDoorC5
import Derived.Test.YtoipkcljmlfobaaDoorAw19
set_option linter.unusedVariables false
set_option linter.unusedSimpArgs false
namespace Go.Proofs.YtoipkcljmlfobaaDoor
open Go Go.AW
set_option maxRecDepth 100000
set_option maxHeartbeats 8000000

theorem rWords_c (its : List Item) (hlen : its.length ≤ 1000000) (hroom : (wordsOf its).length ≤ 1000000) (σ : Store) : ACalls E 16 [itemsV its] σ fun r σ' => r = strs (wordsOf its) ∧ σ' = σ := by
  refine ACalls.enter Tryd.func16 rfl Tryd.ntmps16 Tryd.results16 (by simp) fun hσ => ?_
  refine AW.stepL [] [0] fun K hK => ?_
  simp
  refine hK _ _ ?_; clear hK
  refine AW.stepL [] [0, 3] fun K hK => ?_
  simp
  refine hK _ _ ?_; clear hK
  refine AW.adopt 3 9 (by simp) (by simp) ?_
  refine AW.only [(0, itemsV its), (3, .rs σ.next 0 0 0)] (by simp) (by simp [Knows]) ?_
  refine AW.seqL [3] fun K1 hK1 => ?_
  refine AW.stepL [] [0, 3, 4] fun K hK => ?_
  simp
  refine hK _ _ ?_; clear hK
  refine AW.block ?_
  refine AW.loopS (ι := Nat × Nat × Store) (fun x => [(0, itemsV its), (3, .rs σ.next x.2.1 0 (wordsOf (its.take x.1)).length), (4, .c (.int .i64 x.1))]) (fun x => x.2.2)
      (fun x => x.1 ≤ its.length ∧ σ.next < x.2.2.next ∧ (∀ j, j < σ.next → x.2.2.get j = σ.get j) ∧ x.2.2.get σ.next = some (.arr 9 x.2.1 ((wordsOf (its.take x.1)).map str))) (fun x => its.length - x.1) (0, 0, _)
      (fun x hx => by have := hx.2.1; omega) ⟨Nat.zero_le _, by simp, fun j hj => by simp [show j ≠ σ.next by omega], by simp [wordsOf]⟩ rfl (by simp [Knows, wordsOf]) ?_
  rintro ⟨i, g, s⟩ ⟨hi, hnx, hsame, hO⟩
  simp only at hi hnx hsame hO ⊢
  refine AW.seqL [0, 3, 4] fun K2 hK2 => ?_
  refine AW.stepL [] [0, 3, 4, 8] fun K hK => ?_
  simp
  refine hK _ _ ?_; clear hK
  refine AW.cond (hb := by simp; rfl) (fun hb => ?_) (fun hb => ?_)
  · simp at hb
    obtain ⟨it, hit⟩ := get_ex hb
    have hltI : (i : Int) < its.length := by omega
    have hsum := le_sum wd hit
    have hsnoc := flat_snoc wd hit
    rw [show List.flatMap wd its = wordsOf its from rfl, show List.flatMap wd (its.take i) = wordsOf (its.take i) from rfl] at hsum
    rw [show List.flatMap wd (its.take (i + 1)) = wordsOf (its.take (i + 1)) from rfl, show List.flatMap wd (its.take i) = wordsOf (its.take i) from rfl] at hsnoc
    have hw1 : IntKind.i64.wrap ((i : Int) + 1) = (i : Int) + 1 := wrap64_id (by omega) (by omega)
    refine AW.skip ?_
    simp
    refine hK2 _ _ ?_; clear hK2
    refine AW.seqL [0, 3, 4] fun K3 hK3 => ?_
    refine AW.block ?_
    refine AW.seqL [0, 3, 4] fun K4 hK4 => ?_
    refine AW.stepL [] [0, 3, 4, 15] fun K hK => ?_
    simp [hit, hltI, itemV]
    refine hK _ _ ?_; clear hK
    cases hg : it.1 with
    | true =>
      have hwd : wd it = bW1 :: it.2.1 ++ [eW1] := by simp [wd, hg]
      rw [hwd] at hsum hsnoc
      simp at hsum
      refine AW.cond (b := true) (hb := by simp) (fun _ => ?_) (fun h => nomatch h)
      refine AW.region (ow := []) ?_
      simp [hO]
      refine ⟨by omega, by simp [maxLen]; omega, ?_⟩
      refine hK4 _ _ ?_; clear hK4
      refine AW.stepL [] [0, 3, 4] fun K hK => ?_
      simp [hit, hltI, itemV]
      refine ⟨by omega, by simp [maxLen]; omega, ?_⟩
      refine hK _ _ ?_; clear hK
      refine AW.stepL [] [0, 3, 4, 30] fun K hK => ?_
      simp [hit, hltI, itemV]
      refine hK _ _ ?_; clear hK
      refine AW.cond (b := true) (hb := by simp [hg]) (fun _ => ?_) (fun h => nomatch h)
      refine AW.region (ow := []) ?_
      simp
      refine ⟨by omega, by omega, by simp [maxLen]; omega, ?_⟩
      refine hK3 _ _ ?_; clear hK3
      refine AW.region (ow := []) ?_
      simp [hw1]
      refine ⟨i + 1, g + 1 + 1 + 1, _, ⟨by omega, by simpa using hnx, fun j hj => by simp [show j ≠ σ.next by omega]; exact hsame j hj, ?_⟩, rfl, ?_, by omega⟩
      · simp only [hsnoc]; simp [bW1, eW1]
      · simp only [hsnoc]; simp [Knows]; omega
    | false =>
      have hwd : wd it = it.2.1 := by simp [wd, hg]
      rw [hwd] at hsum hsnoc
      refine AW.cond (b := false) (hb := by simp) (fun h => nomatch h) (fun _ => ?_)
      refine AW.skip ?_
      simp
      refine hK4 _ _ ?_; clear hK4
      refine AW.stepL [] [0, 3, 4] fun K hK => ?_
      simp [hit, hltI, itemV, hO]
      refine ⟨by omega, by simp [maxLen]; omega, ?_⟩
      refine hK _ _ ?_; clear hK
      refine AW.stepL [] [0, 3, 4, 30] fun K hK => ?_
      simp [hit, hltI, itemV]
      refine hK _ _ ?_; clear hK
      refine AW.cond (b := false) (hb := by simp [hg]) (fun h => nomatch h) (fun _ => ?_)
      refine AW.skip ?_
      simp
      refine hK3 _ _ ?_; clear hK3
      refine AW.region (ow := []) ?_
      simp [hw1]
      refine ⟨i + 1, g + 1, _, ⟨by omega, by simpa using hnx, fun j hj => by simp [show j ≠ σ.next by omega]; exact hsame j hj, ?_⟩, rfl, ?_, by omega⟩
      · simp only [hsnoc]; simp
      · simp only [hsnoc]; simp [Knows]
  · simp at hb
    have hie : i = its.length := by omega
    refine AW.exit ?_
    simp
    refine hK1 _ _ ?_; clear hK1
    refine AW.stepL [] [2] fun K hK => ?_
    simp
    refine hK _ _ ?_; clear hK
    refine AW.ret ?_
    simp
    rw [hie, List.take_length] at hO ⊢
    exact fin_row hσ (by omega) hsame hO (bel_strs _ _) (by simp) ⟨rfl, rfl⟩

end Go.Proofs.YtoipkcljmlfobaaDoor
