/- The comparison of lists of items. No condition. -/
import Derived.Test.YtoipkcljmlfobaaDoorC3
import Derived.Test.YtoipkcljmlfobaaDoorAw19
set_option linter.unusedVariables false
set_option linter.unusedSimpArgs false
namespace Go.Proofs.YtoipkcljmlfobaaDoor
open Go Go.AW
set_option maxRecDepth 100000
set_option maxHeartbeats 8000000

/-- What is compared of an item. -/
def key (at' : Bool) (it : Item) : Item := (it.1, it.2.1, if at' then it.2.2 else [])
def sameB (a b : List Item) (at' : Bool) : Bool := decide (a.map (key at') = b.map (key at'))

def Small (l : List Item) : Prop := l.length ≤ 1000000 ∧ ∀ it ∈ l, it.2.1.length ≤ 1000000 ∧ it.2.2.length ≤ 1000000

theorem Same_c (a b : List Item) (at' : Bool) (ha : Small a) (hb' : Small b) (σ : Store) : ACalls E 10 [itemsV a, itemsV b, .c (.bool at')] σ fun r σ' => r = .c (.bool (sameB a b at')) ∧ σ' = σ := by
  refine ACalls.enter Tryd.func10 rfl Tryd.ntmps10 Tryd.results10 (by simp) fun hσ => ?_
  refine AW.stepL [] [0, 1, 2] fun K hK => ?_
  simp
  refine hK _ _ ?_; clear hK
  refine AW.seqL [0, 1, 2] fun K1 hK1 => ?_
  refine AW.stepL [] [0, 1, 2, 12] fun K hK => ?_
  simp
  refine hK _ _ ?_; clear hK
  refine AW.cond (hb := by simp; rfl) (fun hb => ?_) (fun hb => ?_)
  · simp at hb
    refine AW.stepL [] [6] fun K hK => ?_
    simp
    refine hK _ _ ?_; clear hK
    refine AW.ret ?_
    simp
    have : sameB a b at' = false := by
      simp only [sameB, decide_eq_false_iff_not]
      intro e
      have := congrArg List.length e
      simp at this; omega
    exact Fin.same (Nat.le_refl _) ⟨by rw [this], rfl⟩
  · simp at hb
    have hl : a.length = b.length := by omega
    refine AW.skip ?_
    simp
    refine hK1 _ _ ?_; clear hK1
    refine AW.seqL [] fun K2 hK2 => ?_
    refine AW.stepL [] [0, 1, 2, 7] fun K hK => ?_
    simp
    refine hK _ _ ?_; clear hK
    refine AW.block ?_
    refine AW.loopS (ι := Nat) (fun x => [(0, itemsV a), (1, itemsV b), (2, .c (.bool at')), (7, .c (.int .i64 x))]) (fun _ => σ) (fun x => x ≤ a.length ∧ (a.take x).map (key at') = (b.take x).map (key at')) (fun x => a.length - x) 0 (fun _ _ => Nat.le_refl _) (by simp) rfl (by simp [Knows]) ?_
    rintro x ⟨hx, hxe⟩
    refine AW.seqL [0, 1, 2, 7] fun K3 hK3 => ?_
    refine AW.stepL [] [0, 1, 2, 7, 16] fun K hK => ?_
    simp
    refine hK _ _ ?_; clear hK
    refine AW.cond (hb := by simp; rfl) (fun hb => ?_) (fun hb => ?_)
    · simp at hb
      have ha1 := ha.1
      have hltI : (x : Int) < a.length := by omega
      have hltI2 : (x : Int) < b.length := by omega
      obtain ⟨u, hu⟩ := get_ex (l := a) (i := x) (by omega)
      obtain ⟨v, hv⟩ := get_ex (l := b) (i := x) (by omega)
      obtain ⟨ua, ub⟩ := ha.2 u (List.mem_of_getElem? hu)
      obtain ⟨va, vb⟩ := hb'.2 v (List.mem_of_getElem? hv)
      have hw1 : IntKind.i64.wrap ((x : Int) + 1) = (x : Int) + 1 := wrap64_id (by omega) (by omega)
      refine AW.skip ?_
      simp
      refine hK3 _ _ ?_; clear hK3
      refine AW.seqL [0, 1, 2, 7] fun K4 hK4 => ?_
      refine AW.block ?_
      refine AW.stepRP [] [0, 1, 2, 7, 60] [0, 1, 2, 7] [[0, 1, 2, 7, 19], [0, 1, 2, 7, 19, 20], [0, 1, 2, 7, 21], [0, 1, 2, 7, 22], [0, 1, 2, 7, 23], [0, 1, 2, 7, 23, 24], [0, 1, 2, 7, 23, 24, 25], [0, 1, 2, 7, 23, 26], [0, 1, 2, 7, 23, 27], [0, 1, 2, 7, 23, 28], [0, 1, 2, 7, 29], [0, 1, 2, 7, 30], [0, 1, 2, 7, 30, 31], [0, 1, 2, 7, 30, 31, 32], [0, 1, 2, 7, 30, 33], [0, 1, 2, 7, 30, 34], [0, 1, 2, 7, 30, 35], [0, 1, 2, 7, 30, 35, 36], [0, 1, 2, 7, 30, 35, 36, 37], [0, 1, 2, 7, 30, 35, 38], [0, 1, 2, 7, 30, 35, 39], [0, 1, 2, 7, 30, 35, 40], [0, 1, 2, 7, 30, 41], [0, 1, 2, 7, 30, 42], [0, 1, 2, 7, 43], [0, 1, 2, 7, 44], [0, 1, 2, 7, 44, 45], [0, 1, 2, 7, 44, 46], [0, 1, 2, 7, 44, 46, 47], [0, 1, 2, 7, 44, 46, 47, 48], [0, 1, 2, 7, 44, 46, 49], [0, 1, 2, 7, 44, 46, 50], [0, 1, 2, 7, 44, 46, 51], [0, 1, 2, 7, 44, 46, 51, 52], [0, 1, 2, 7, 44, 46, 51, 52, 53], [0, 1, 2, 7, 44, 46, 51, 54], [0, 1, 2, 7, 44, 46, 51, 55], [0, 1, 2, 7, 44, 46, 51, 56], [0, 1, 2, 7, 44, 46, 57], [0, 1, 2, 7, 44, 46, 58], [0, 1, 2, 7, 44, 59], [0, 1, 2, 7, 60]] (by kernel_rfl) (by kernel_rfl) (by kernel_rfl) fun K hK => ?_
      have main : ∀ t : Bool, (t = true ↔ key at' u ≠ key at' v) → K [(0, itemsV a), (1, itemsV b), (2, .c (.bool at')), (7, .c (.int .i64 x)), (60, .c (.bool t))] σ := by
        intro t ht
        refine hK _ _ ?_; clear hK
        cases t with
        | true =>
          refine AW.cond (b := true) (hb := by simp) (fun _ => ?_) (fun h => nomatch h)
          refine AW.stepL [] [6] fun K hK => ?_
          simp
          refine hK _ _ ?_; clear hK
          refine AW.ret ?_
          simp
          have : sameB a b at' = false := by
            simp only [sameB, decide_eq_false_iff_not]
            intro e
            have h1 := congrArg (fun l : List Item => l[x]?) e
            simp only [List.getElem?_map, hu, hv, Option.map_some, Option.some.injEq] at h1
            exact ht.1 rfl h1
          exact Fin.same (Nat.le_refl _) ⟨by rw [this], rfl⟩
        | false =>
          have he : key at' u = key at' v := Classical.byContradiction fun h => by have := ht.2 h; cases this
          refine AW.cond (b := false) (hb := by simp) (fun h => nomatch h) (fun _ => ?_)
          refine AW.skip ?_
          simp
          refine hK4 _ _ ?_; clear hK4
          refine AW.region (ow := []) ?_
          simp [hw1]
          refine ⟨x + 1, ⟨by omega, ?_⟩, by simp [Knows], by omega⟩
          have := hxe
          simp only [List.map_take] at this
          rw [List.take_add_one, List.take_add_one, this]
          simp [hu, hv, he]
      clear hK
      obtain ⟨ug, uf, un⟩ := u
      obtain ⟨vg, vf, vn⟩ := v
      simp only at ua ub va vb
      by_cases hg : ug = vg
      · subst hg
        simp [hu, hv, hltI, hltI2, itemV]
        refine callQ_of (Texts_c uf vf (by omega) (by omega) σ) ?_
        by_cases hf : uf = vf
        · subst hf
          cases at' with
          | false =>
            simp
            exact main false (by simp [key])
          | true =>
            simp [hu, hv, hltI, hltI2, itemV]
            refine callQ_of (Numbers_c un vn (by omega) (by omega) σ) ?_
            by_cases hn : un = vn
            · subst hn
              simp
              exact main false (by simp [key])
            · have hn' : (un == vn) = false := by simpa using hn
              simp [hn']
              exact main true (by simp [key, hn])
        · have hf' : (uf == vf) = false := by simpa using hf
          simp [hf']
          exact main true (by simp [key, hf])
      · simp [hu, hv, hltI, hltI2, itemV, hg]
        exact main true (by simp [key, hg])
    · simp at hb
      refine AW.exit ?_
      simp
      refine hK2 _ _ ?_; clear hK2
      refine AW.stepL [] [6] fun K hK => ?_
      simp
      refine hK _ _ ?_; clear hK
      refine AW.ret ?_
      simp
      rw [List.take_of_length_le (by omega), List.take_of_length_le (by omega)] at hxe
      exact Fin.same (Nat.le_refl _) ⟨by simp [sameB, hxe], rfl⟩
end Go.Proofs.YtoipkcljmlfobaaDoor
