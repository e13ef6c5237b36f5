/- The words, the items and the small functions that compare and look for them. No condition. -/
import Derived.Test.YtoipkcljmlfobaaDoorAwT
import Derived.Test.YtoipkcljmlfobaaDoorAw17
set_option linter.unusedVariables false
set_option linter.unusedSimpArgs false
namespace Go.Proofs.YtoipkcljmlfobaaDoor
open Go Go.AW
set_option maxRecDepth 100000
set_option maxHeartbeats 8000000

/-- A word. -/
abbrev W := List UInt8
def bW1 : W := [45, 40]
def bW2 : W := [45, 45, 115, 116, 97, 114, 116, 45, 103, 114, 111, 117, 112]
def eW1 : W := [45, 41]
def eW2 : W := [45, 45, 101, 110, 100, 45, 103, 114, 111, 117, 112]
noncomputable def E : Env := ⟨Tryd.prog, fun g => if g = 0 then some [.ps [str bW1, str bW2]] else if g = 1 then some [.ps [str eW1, str eW2]] else none⟩
@[simp] theorem E_P : E.P = Tryd.prog := rfl
@[simp] theorem E_G0 : E.G 0 = some [.ps [str bW1, str bW2]] := rfl
@[simp] theorem E_G1 : E.G 1 = some [.ps [str eW1, str eW2]] := rfl
def isB (w : W) : Bool := w == bW1 || w == bW2
def isE (w : W) : Bool := w == eW1 || w == eW2
def intV (n : Int) : AV := .c (.int .i64 n)
@[simp] theorem intV_eq (n : Int) : intV n = .c (.int .i64 n) := rfl
def strs (l : List W) : AV := .ps (l.map str)
def ints (l : List Int) : AV := .ps (l.map intV)
attribute [simp] strs ints
theorem Texts_c (a b : List W) (ha : a.length ≤ 9223372036854775807) (hb : b.length ≤ 9223372036854775807) (σ : Store) : ACalls E 14 [strs a, strs b] σ fun r σ' => r = .c (.bool (a == b)) ∧ σ' = σ := by
  refine ACalls.enter Tryd.func14 rfl Tryd.ntmps14 Tryd.results14 (by simp) fun hσ => ?_
  refine AW.stepL [] [0, 1] fun K hK => ?_
  simp
  refine hK _ _ ?_; clear hK
  refine AW.seqL [0, 1] fun K1 hK1 => ?_
  refine AW.stepL [] [0, 1, 10] fun K hK => ?_
  simp
  refine hK _ _ ?_; clear hK
  refine AW.cond (hb := by simp; rfl) (fun hb => ?_) (fun hb => ?_)
  · simp at hb
    refine AW.stepL [] [4] fun K hK => ?_
    simp
    refine hK _ _ ?_; clear hK
    refine AW.ret ?_
    simp
    have : (a == b) = false := by simp; intro e; subst e; exact hb rfl
    exact Fin.same (Nat.le_refl _) ⟨by rw [this], rfl⟩
  · simp at hb
    have hl : a.length = b.length := by omega
    refine AW.skip ?_
    simp
    refine hK1 _ _ ?_; clear hK1
    refine AW.seqL [] fun K2 hK2 => ?_
    refine AW.stepL [] [0, 1, 5] fun K hK => ?_
    simp
    refine hK _ _ ?_; clear hK
    refine AW.block ?_
    refine AW.loopS (ι := Nat) (fun x => [(0, strs a), (1, strs b), (5, .c (.int .i64 x))]) (fun _ => σ) (fun x => x ≤ a.length ∧ a.take x = b.take x) (fun x => a.length - x) 0 (fun _ _ => Nat.le_refl _) (by simp) rfl (by simp [Knows]) ?_
    rintro x ⟨hx, hxe⟩
    refine AW.seqL [0, 1, 5] fun K3 hK3 => ?_
    refine AW.stepL [] [0, 1, 5, 14] fun K hK => ?_
    simp
    refine hK _ _ ?_; clear hK
    refine AW.cond (hb := by simp; rfl) (fun hb => ?_) (fun hb => ?_)
    · simp at hb
      refine AW.skip ?_
      simp
      refine hK3 _ _ ?_; clear hK3
      refine AW.seqL [0, 1, 5] fun K4 hK4 => ?_
      refine AW.block ?_
      obtain ⟨u, hu⟩ := get_ex (l := a) (i := x) (by omega)
      obtain ⟨v, hv⟩ := get_ex (l := b) (i := x) (by omega)
      refine AW.stepR [] [0, 1, 5, 25] (by kernel_rfl) (by kernel_rfl) fun K hK => ?_
      simp [hu, hv]
      refine hK _ _ ?_; clear hK
      refine AW.cond (hb := by simp; exact (Bool.not_not _).symm) (fun hb => ?_) (fun hb => ?_)
      · simp at hb
        refine AW.stepL [] [4] fun K hK => ?_
        simp
        refine hK _ _ ?_; clear hK
        refine AW.ret ?_
        simp
        have hne := hb
        have : (a == b) = false := by simp; intro e; subst e; rw [hu] at hv; exact hne (Option.some.inj hv)
        exact Fin.same (Nat.le_refl _) ⟨by rw [this], rfl⟩
      · simp at hb
        refine AW.skip ?_
        simp
        refine hK4 _ _ ?_; clear hK4
        refine AW.region (ow := []) ?_
        simp (disch := omega) [wrap64_id]
        refine ⟨x + 1, ⟨by omega, ?_⟩, by simp [Knows], by omega⟩
        rw [List.take_add_one, List.take_add_one, hxe, hu, hv, hb]
    · simp at hb
      refine AW.exit ?_
      simp
      refine hK2 _ _ ?_; clear hK2
      refine AW.stepL [] [4] fun K hK => ?_
      simp
      refine hK _ _ ?_; clear hK
      refine AW.ret ?_
      simp
      have : a = b := by rwa [List.take_of_length_le (by omega), List.take_of_length_le (by omega)] at hxe
      exact Fin.same (Nat.le_refl _) ⟨by simp [this], rfl⟩

theorem Numbers_c (a b : List Int) (ha : a.length ≤ 9223372036854775807) (hb : b.length ≤ 9223372036854775807) (σ : Store) : ACalls E 19 [ints a, ints b] σ fun r σ' => r = .c (.bool (a == b)) ∧ σ' = σ := by
  refine ACalls.enter Tryd.func19 rfl Tryd.ntmps19 Tryd.results19 (by simp) fun hσ => ?_
  refine AW.stepL [] [0, 1] fun K hK => ?_
  simp
  refine hK _ _ ?_; clear hK
  refine AW.seqL [0, 1] fun K1 hK1 => ?_
  refine AW.stepL [] [0, 1, 10] fun K hK => ?_
  simp
  refine hK _ _ ?_; clear hK
  refine AW.cond (hb := by simp; rfl) (fun hb => ?_) (fun hb => ?_)
  · simp at hb
    refine AW.stepL [] [4] fun K hK => ?_
    simp
    refine hK _ _ ?_; clear hK
    refine AW.ret ?_
    simp
    have : (a == b) = false := by simp; intro e; subst e; exact hb rfl
    exact Fin.same (Nat.le_refl _) ⟨by rw [this], rfl⟩
  · simp at hb
    have hl : a.length = b.length := by omega
    refine AW.skip ?_
    simp
    refine hK1 _ _ ?_; clear hK1
    refine AW.seqL [] fun K2 hK2 => ?_
    refine AW.stepL [] [0, 1, 5] fun K hK => ?_
    simp
    refine hK _ _ ?_; clear hK
    refine AW.block ?_
    refine AW.loopS (ι := Nat) (fun x => [(0, ints a), (1, ints b), (5, .c (.int .i64 x))]) (fun _ => σ) (fun x => x ≤ a.length ∧ a.take x = b.take x) (fun x => a.length - x) 0 (fun _ _ => Nat.le_refl _) (by simp) rfl (by simp [Knows]) ?_
    rintro x ⟨hx, hxe⟩
    refine AW.seqL [0, 1, 5] fun K3 hK3 => ?_
    refine AW.stepL [] [0, 1, 5, 14] fun K hK => ?_
    simp
    refine hK _ _ ?_; clear hK
    refine AW.cond (hb := by simp; rfl) (fun hb => ?_) (fun hb => ?_)
    · simp at hb
      refine AW.skip ?_
      simp
      refine hK3 _ _ ?_; clear hK3
      refine AW.seqL [0, 1, 5] fun K4 hK4 => ?_
      refine AW.block ?_
      obtain ⟨u, hu⟩ := get_ex (l := a) (i := x) (by omega)
      obtain ⟨v, hv⟩ := get_ex (l := b) (i := x) (by omega)
      refine AW.stepR [] [0, 1, 5, 25] (by kernel_rfl) (by kernel_rfl) fun K hK => ?_
      simp [hu, hv]
      refine hK _ _ ?_; clear hK
      refine AW.cond (hb := by simp; exact (Bool.not_not _).symm) (fun hb => ?_) (fun hb => ?_)
      · simp at hb
        refine AW.stepL [] [4] fun K hK => ?_
        simp
        refine hK _ _ ?_; clear hK
        refine AW.ret ?_
        simp
        have hne := hb
        have : (a == b) = false := by simp; intro e; subst e; rw [hu] at hv; exact hne (Option.some.inj hv)
        exact Fin.same (Nat.le_refl _) ⟨by rw [this], rfl⟩
      · simp at hb
        refine AW.skip ?_
        simp
        refine hK4 _ _ ?_; clear hK4
        refine AW.region (ow := []) ?_
        simp (disch := omega) [wrap64_id]
        refine ⟨x + 1, ⟨by omega, ?_⟩, by simp [Knows], by omega⟩
        rw [List.take_add_one, List.take_add_one, hxe, hu, hv, hb]
    · simp at hb
      refine AW.exit ?_
      simp
      refine hK2 _ _ ?_; clear hK2
      refine AW.stepL [] [4] fun K hK => ?_
      simp
      refine hK _ _ ?_; clear hK
      refine AW.ret ?_
      simp
      have : a = b := by rwa [List.take_of_length_le (by omega), List.take_of_length_le (by omega)] at hxe
      exact Fin.same (Nat.le_refl _) ⟨by simp [this], rfl⟩

theorem Index_c (a : List W) (w : W) (ha : a.length ≤ 9223372036854775807) (σ : Store) : ACalls E 23 [strs a, str w] σ fun r σ' => (∃ z : Int, r = .c (.int .i64 z) ∧ (0 ≤ z ↔ w ∈ a)) ∧ σ' = σ := by
  refine ACalls.enter Tryd.func23 rfl Tryd.ntmps23 Tryd.results23 (by simp) fun hσ => ?_
  refine AW.stepL [] [0, 1] fun K hK => ?_
  simp
  refine hK _ _ ?_; clear hK
  refine AW.seqL [] fun K1 hK1 => ?_
  refine AW.stepL [] [0, 1, 7, 8] fun K hK => ?_
  simp
  refine hK _ _ ?_; clear hK
  refine AW.block ?_
  refine AW.loopS (ι := Nat) (fun x => [(0, strs a), (1, str w), (7, .c (.int .i64 a.length)), (8, .c (.int .i64 x))]) (fun _ => σ) (fun x => x ≤ a.length ∧ w ∉ a.take x) (fun x => a.length - x) 0 (fun _ _ => Nat.le_refl _) (by simp) rfl (by simp [Knows]) ?_
  rintro x ⟨hx, hxe⟩
  refine AW.stepL [] [0, 1, 7, 8, 9] fun K hK => ?_
  simp
  refine hK _ _ ?_; clear hK
  refine AW.seqL [0, 1, 7, 8] fun K2 hK2 => ?_
  refine AW.cond (hb := by simp; rfl) (fun hb => ?_) (fun hb => ?_)
  · simp at hb
    refine AW.skip ?_
    simp
    refine hK2 _ _ ?_; clear hK2
    refine AW.seqL [0, 1, 7, 8] fun K3 hK3 => ?_
    refine AW.block ?_
    obtain ⟨u, hu⟩ := get_ex (l := a) (i := x) (by omega)
    refine AW.stepL [] [0, 1, 5, 7, 8] fun K hK => ?_
    simp
    refine hK _ _ ?_; clear hK
    refine AW.stepL [] [0, 1, 5, 7, 8, 16] fun K hK => ?_
    simp [hu]
    refine hK _ _ ?_; clear hK
    refine AW.cond (hb := by simp; rfl) (fun hb => ?_) (fun hb => ?_)
    · simp at hb
      refine AW.stepL [] [4] fun K hK => ?_
      simp
      refine hK _ _ ?_; clear hK
      refine AW.ret ?_
      simp
      exact Fin.same (Nat.le_refl _) ⟨⟨x, rfl, ⟨fun _ => by rw [hb]; exact List.mem_of_getElem? hu, fun _ => by omega⟩⟩, rfl⟩
    · simp at hb
      refine AW.skip ?_
      simp
      refine hK3 _ _ ?_; clear hK3
      refine AW.region (ow := []) ?_
      simp (disch := omega) [wrap64_id]
      refine ⟨x + 1, ⟨by omega, ?_⟩, by simp [Knows], by omega⟩
      rw [List.take_add_one, hu]
      simp
      exact ⟨hxe, hb⟩
  · simp at hb
    refine AW.exit ?_
    simp
    refine hK1 _ _ ?_; clear hK1
    refine AW.stepL [] [4] fun K hK => ?_
    simp
    refine hK _ _ ?_; clear hK
    refine AW.ret ?_
    simp
    rw [List.take_of_length_le (by omega)] at hxe
    exact Fin.same (Nat.le_refl _) ⟨⟨-1, rfl, by simp [hxe]⟩, rfl⟩

theorem Contains_c (a : List W) (w : W) (ha : a.length ≤ 9223372036854775807) (σ : Store) : ACalls E 21 [strs a, str w] σ fun r σ' => r = .c (.bool (a.contains w)) ∧ σ' = σ := by
  refine ACalls.enter Tryd.func21 rfl Tryd.ntmps21 Tryd.results21 (by simp) fun hσ => ?_
  refine AW.stepL [] [0, 1] fun K hK => ?_
  simp
  refine hK _ _ ?_; clear hK
  refine AW.stepL [] [4] fun K hK => ?_
  simp
  refine (Index_c a w ha σ).mono ?_
  rintro r σ' ⟨⟨z, rfl, hz⟩, rfl⟩
  simp
  refine hK _ _ ?_; clear hK
  refine AW.ret ?_
  simp
  exact Fin.same (Nat.le_refl _) ⟨by simp [hz], rfl⟩

def kindN (w : W) : Nat := if isB w then 1 else if isE w then 2 else if w = [] then 3 else 0
theorem kind_c (w : W) (σ : Store) : ACalls E 20 [str w] σ fun r σ' => r = .c (.int .i64 (kindN w)) ∧ σ' = σ := by
  refine ACalls.enter Tryd.func20 rfl Tryd.ntmps20 Tryd.results20 (by simp) fun hσ => ?_
  refine AW.stepL [] [0] fun K hK => ?_
  simp
  refine hK _ _ ?_; clear hK
  refine AW.seqL [0] fun K1 hK1 => ?_
  refine AW.stepL [] [0, 8] fun K hK => ?_
  have main : K [(0, str w), (8, .c (.bool (isB w)))] σ := by
    refine hK _ _ ?_; clear hK
    refine AW.cond (hb := by simp; rfl) (fun hb1 => ?_) (fun hb1 => ?_)
    · refine AW.stepL [] [2] fun K hK => ?_
      simp
      refine hK _ _ ?_; clear hK
      refine AW.ret ?_
      simp
      exact Fin.same (Nat.le_refl _) ⟨by simp [kindN, hb1], rfl⟩
    · refine AW.skip ?_
      simp
      refine hK1 _ _ ?_; clear hK1
      refine AW.seqL [0] fun K2 hK2 => ?_
      refine AW.stepL [] [0, 14] fun K hK => ?_
      have main : K [(0, str w), (14, .c (.bool (isE w)))] σ := by
        refine hK _ _ ?_; clear hK
        refine AW.cond (hb := by simp; rfl) (fun hb2 => ?_) (fun hb2 => ?_)
        · refine AW.stepL [] [2] fun K hK => ?_
          simp
          refine hK _ _ ?_; clear hK
          refine AW.ret ?_
          simp
          exact Fin.same (Nat.le_refl _) ⟨by simp [kindN, hb1, hb2], rfl⟩
        · refine AW.skip ?_
          simp
          refine hK2 _ _ ?_; clear hK2
          refine AW.seqL [] fun K3 hK3 => ?_
          refine AW.stepL [] [16] fun K hK => ?_
          by_cases h3 : w = []
          · subst h3
            simp
            refine hK _ _ ?_; clear hK
            refine AW.cond (hb := by simp; rfl) (fun hb => ?_) (fun hb => ?_)
            · refine AW.stepL [] [2] fun K hK => ?_
              simp
              refine hK _ _ ?_; clear hK
              refine AW.ret ?_
              simp
              exact Fin.same (Nat.le_refl _) ⟨by simp [kindN, hb1, hb2], rfl⟩
            · cases hb
          · simp [h3]
            refine hK _ _ ?_; clear hK
            refine AW.cond (hb := by simp; rfl) (fun hb => ?_) (fun hb => ?_)
            · simp [h3] at hb
            · refine AW.skip ?_
              simp
              refine hK3 _ _ ?_; clear hK3
              refine AW.stepL [] [2] fun K hK => ?_
              simp
              refine hK _ _ ?_; clear hK
              refine AW.ret ?_
              simp
              exact Fin.same (Nat.le_refl _) ⟨by simp [kindN, hb1, hb2, h3], rfl⟩
      clear hK
      have hL : ∀ b : Bool, b = isE w → K [(0, .c (.string (bs w))), (14, .c (.bool b))] σ := fun b e => by rw [e]; exact main
      by_cases h1 : w = [45, 41]
      · subst h1
        simp
        exact hL _ (by simp [isE, eW1])
      · by_cases h2 : w = [45, 45, 101, 110, 100, 45, 103, 114, 111, 117, 112]
        · subst h2
          simp
          exact hL _ (by simp [isE, eW2])
        · simp [h1, h2]
          exact hL _ (by simp [isE, eW1, eW2, h1, h2])

  clear hK
  have hL : ∀ b : Bool, b = isB w → K [(0, .c (.string (bs w))), (8, .c (.bool b))] σ := fun b e => by rw [e]; exact main
  by_cases h1 : w = [45, 40]
  · subst h1
    simp
    exact hL _ (by simp [isB, bW1])
  · by_cases h2 : w = [45, 45, 115, 116, 97, 114, 116, 45, 103, 114, 111, 117, 112]
    · subst h2
      simp
      exact hL _ (by simp [isB, bW2])
    · simp [h1, h2]
      exact hL _ (by simp [isB, bW1, bW2, h1, h2])

end Go.Proofs.YtoipkcljmlfobaaDoor
