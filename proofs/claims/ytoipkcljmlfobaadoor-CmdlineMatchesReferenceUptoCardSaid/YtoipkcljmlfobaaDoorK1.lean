/- What all cards of this seat share: the laid variables, a world in which they are laid. No condition. -/
import Derived.Test.YtoipkcljmlfobaaDoorC1
import Derived.Test.YtoipkcljmlfobaaDoorCards
import Derived.Test.YtoipkcljmlfobaaDoorTie
import Derived.Handed
import Derived.JoinedOf
import Derived.Deep.DeepHandedRow
import Derived.Deep.DeepWitnessRowRef
import Derived.Lib.LaidTab
set_option linter.unusedVariables false
set_option linter.unusedSimpArgs false
namespace Go.Proofs.YtoipkcljmlfobaaDoor
open Go Go.AW
set_option maxRecDepth 100000
set_option maxHeartbeats 8000000

theorem own : ownKnob Tryd.prog.godebug = none := by kernel_rfl
theorem laidOut : laidOutB E.P = true := by kernel_rfl
theorem bulkOk (H : Type) : BulkOk (H := H) Rows.uptoBulk Rows.uptoBulkAll :=
  ⟨fun l => by cases l <;> simp [Rows.uptoBulk], fun s => by simp [Rows.uptoBulk], by simp [Rows.uptoBulk], fun e s => by simp [Rows.uptoBulk], fun p => by simp [Rows.uptoBulk], by simp [Rows.uptoBulkAll], fun d r => by simp [Rows.uptoBulkAll]⟩
theorem bool4 : E.P.underlying 4 = some .bool := by kernel_rfl

def laid0 : List (String × DataW Unit) := [("arlink/cmdline.begins", Rows.laid_arlink_cmdline_begins), ("arlink/cmdline.ends", Rows.laid_arlink_cmdline_ends)]

theorem globs {W : World} (h : laidMetH Tryd.prog laid0 W) : ∀ g cs, E.G g = some cs → VR (Γ0 W.heap.size) W (.pp cs) (.pointer (some ⟨g, 0, none⟩)) ∧ ∀ m, Bel m (.pp cs) := by
  intro g cs hg
  obtain ⟨ps, hv, _⟩ : laidMet Tryd.prog laid0 W := h
  by_cases h0 : g = 0
  · subst h0
    obtain rfl : [.ps [str bW1, str bW2]] = cs := Option.some.inj hg
    refine ⟨?_, by simp⟩
    have := glob_of_laid (bulkOk Unit) (Γ := Γ0 W.heap.size) (Γ0_owns _) (n := 8) (t := 22) (g := 0) (name := "arlink/cmdline.begins") (d := Rows.laid_arlink_cmdline_begins) (by kernel_rfl) (by kernel_rfl) (by kernel_rfl) laid0 ps hv (by simp [laid0])
    simpa [Rows.laid_arlink_cmdline_begins, avOf, avOfs, AV.cells, bW1, bW2] using this
  · by_cases h1 : g = 1
    · subst h1
      obtain rfl : [.ps [str eW1, str eW2]] = cs := Option.some.inj hg
      refine ⟨?_, by simp⟩
      have := glob_of_laid (bulkOk Unit) (Γ := Γ0 W.heap.size) (Γ0_owns _) (n := 8) (t := 22) (g := 1) (name := "arlink/cmdline.ends") (d := Rows.laid_arlink_cmdline_ends) (by kernel_rfl) (by kernel_rfl) (by kernel_rfl) laid0 ps hv (by simp [laid0])
      simpa [Rows.laid_arlink_cmdline_ends, avOf, avOfs, AV.cells, eW1, eW2] using this
    · simp [E, h0, h1] at hg

theorem words_of {es : List AV} (h : ∀ x ∈ es, ∃ s : ByteArray, x = .c (.string s) ∧ s.size ≤ maxLen) : ∃ l : List W, es = l.map str := by
  obtain ⟨l, hl, _⟩ := list_of (f := str) (p := fun _ => True) (es := es) fun x hx => by
    obtain ⟨s, rfl, _⟩ := h x hx
    exact ⟨s.data.toList, rfl, trivial⟩
  exact ⟨l, hl⟩

theorem ints_of {es : List AV} (h : ∀ x ∈ es, ∃ z : Int, x = .c (.int .i64 z) ∧ IntKind.i64.min ≤ z ∧ z ≤ IntKind.i64.max) : ∃ l : List Int, es = l.map intV := by
  obtain ⟨l, hl, _⟩ := list_of (f := intV) (p := fun _ => True) (es := es) fun x hx => by
    obtain ⟨z, rfl, _⟩ := h x hx
    exact ⟨z, rfl, trivial⟩
  exact ⟨l, hl⟩

theorem blk_pos (a : AV) : 1 ≤ blk a := by
  cases a with
  | c v => cases v <;> simp [blk]
  | _ => simp [blk]
theorem blk_mem {a : AV} : ∀ {l : List AV}, a ∈ l → blk a ≤ blkAll l
  | [], h => by cases h
  | b :: l, h => by
    rw [blkAll]
    rcases List.mem_cons.1 h with rfl | h
    · omega
    · have := blk_mem h; omega
theorem blk_len : ∀ (l : List AV), l.length ≤ blkAll l
  | [] => by simp [blkAll]
  | a :: l => by
    have := blk_len l
    have := blk_pos a
    rw [blkAll, List.length_cons]; omega
theorem bulk_append {H : Type} : ∀ (a b : List (DataW H)), Rows.uptoBulkAll a ≤ Rows.uptoBulkAll (a ++ b)
  | [], b => by simp [Rows.uptoBulkAll]
  | x :: a, b => by
    have := bulk_append a b
    simp only [List.cons_append, Rows.uptoBulkAll]; omega

noncomputable def low : Nat := (begin Tryd.prog (fun _ _ => 0) default).world.heap.size

/-- A world in which the two variables are laid. -/
noncomputable def laidWorld (os : Os) : World :=
  let w0 := World.holding Tryd.prog os ⟨#[.cells #[.string ⟨bW1.toArray⟩, .string ⟨bW2.toArray⟩] 9, .cells #[.string ⟨eW1.toArray⟩, .string ⟨eW2.toArray⟩] 9], #[], []⟩
  { w0 with heap := (w0.heap.modify 0 fun
      | .cells _ t frozen => .cells #[.slice (some ⟨low, 0, none⟩) 2 2] t frozen
      | o => o).modify 1 fun
      | .cells _ t frozen => .cells #[.slice (some ⟨low + 1, 0, none⟩) 2 2] t frozen
      | o => o }

theorem laid_met (os : Os) (args : Array Value) : laidMet Tryd.prog laid0 ((laidWorld os).forCall (fun _ _ => 0) ⟨#[], args, []⟩).memory :=
  laidMet_of_run' 8 (by kernel_rfl) (by kernel_rfl)
end Go.Proofs.YtoipkcljmlfobaaDoor
