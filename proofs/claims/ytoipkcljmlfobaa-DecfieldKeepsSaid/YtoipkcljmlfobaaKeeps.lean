/- The given statement DecfieldKeepsSaid: whatever the arguments, the law returns true and leaves them as they were. No condition. -/
import Derived.Test.YtoipkcljmlfobaaC8
import Derived.Test.YtoipkcljmlfobaaRows
import Derived.Handed
import Derived.JoinedOf
set_option linter.unusedVariables false
set_option linter.unusedSimpArgs false
namespace Go.Proofs.Ytoipkcljmlfobaa.decfieldKeeps
open Go Go.AW
set_option maxRecDepth 100000
set_option maxHeartbeats 8000000

theorem own : ownKnob Try.prog.godebug = none := by kernel_rfl
theorem laidOut : laidOutB E.P = true := by kernel_rfl
theorem bulkOk (H : Type) : BulkOk (H := H) Rows.uptoBulk Rows.uptoBulkAll :=
  ⟨fun l => by cases l <;> simp [Rows.uptoBulk], fun s => by simp [Rows.uptoBulk], by simp [Rows.uptoBulk], fun e s => by simp [Rows.uptoBulk], fun p => by simp [Rows.uptoBulk], by simp [Rows.uptoBulkAll], fun d r => by simp [Rows.uptoBulkAll]⟩
theorem bool4 : E.P.underlying 4 = some .bool := by kernel_rfl
theorem u3 : Try.prog.underlying 3 = some (.int .i64) := by kernel_rfl
theorem u4 : Try.prog.underlying 4 = some .bool := by kernel_rfl
theorem u5 : Try.prog.underlying 5 = some (.int .u8) := by kernel_rfl
theorem u22 : Try.prog.underlying 22 = some (.slice 5) := by kernel_rfl

theorem lift (os : Os) (started : os.Started) (H : Type) (enc : TypeId × Value → H) :
    ReturnsInHanded {} Try.checked os 7 .any (Rows.decfieldKeepsSpec.pre6 enc Try.prog Try.f7 Rows.decfieldKeepsRow.domain false) (Rows.decfieldKeepsSpec.post enc Try.prog Try.f7 false true false false) := by
  refine returnsInHanded_of_change (C := Try.checked) own started (by kernel_rfl) Try.func7
    (ChangeSpec.witness6 (C := Try.checked) false ⟨#[], #[.slice none 0 0, .int .i64 0], []⟩ 8 (by kernel_rfl) (by kernel_rfl) (by kernel_rfl) (by kernel_rfl)) ?_
  intro W base args ds gs before hval hW _ _
  refine row_of (E := E) (n := 8) (bulkOk H) laidOut (by kernel_rfl) (by kernel_rfl) rfl bool4 rfl ?_ (fun g cs h => by cases h) hval hW ?_
  · intro ds h
    match ds, h with
    | [_, _], _ => exact ⟨rfl, rfl, rfl⟩
  · intro xs hx _
    have hx : RdAll Try.prog 8 [22, 3] xs := hx
    simp only [RdAll, Rd, u3, u4, u5, u22] at hx
    obtain ⟨_, _, rfl, ⟨es, rfl, hl, hes⟩, _, _, rfl, ⟨n, rfl, n1, n2⟩, rfl⟩ := hx
    obtain ⟨l, rfl⟩ := bytes_of hes
    simp [IntKind.max, IntKind.min, IntKind.signed, IntKind.bits] at n1 n2
    exact (DecfieldKeeps_c l n (by omega) (by simpa [maxLen] using hl) σ0).mono fun _ _ h => h.1

theorem said : Rows.DecfieldKeepsSaid :=
  OpenClaim.holds_of_wide 7 Try.f7 rfl rfl rfl rfl rfl rfl rfl ⟨rfl, rfl, rfl, rfl, rfl⟩ rfl rfl rfl rfl rfl (by kernel_rfl) Try.func7 (by kernel_rfl)
    (of_decide_eq_true (by kernel_rfl)) (by unfold Func.isWrapper; first | (rw [if_pos (by decide +kernel)]; kernel_rfl) | (rw [if_neg (by decide +kernel)]; exact ⟨rfl, rfl⟩))
    (fun os started H enc _ => lift os started H enc)
end Go.Proofs.Ytoipkcljmlfobaa.decfieldKeeps
