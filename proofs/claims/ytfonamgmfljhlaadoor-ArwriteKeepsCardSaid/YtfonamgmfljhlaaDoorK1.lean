/- What all cards of this seat share: the laid variables, a world in which they are laid, the reading of members. No condition. -/
import Derived.Test.YtfonamgmfljhlaaDoorA11
import Derived.Test.YtfonamgmfljhlaaDoorCards
import Derived.Test.YtfonamgmfljhlaaDoorTie
import Derived.Handed
import Derived.JoinedOf
import Derived.Deep.DeepHandedRow
import Derived.Deep.DeepWitnessRowRef
import Derived.LaidHandle
import Derived.LaidMore
import Derived.OpenShut
set_option linter.unusedVariables false
set_option linter.unusedSimpArgs false
set_option linter.unnecessarySimpa false
namespace Go.Proofs.YtfonamgmfljhlaaDoor
open Go Go.AW
set_option maxRecDepth 100000
set_option maxHeartbeats 8000000

theorem own : ownKnob Tryd.prog.godebug = none := by kernel_rfl
theorem laidOut : laidOutB E.P = true := by kernel_rfl
theorem bulkOk (H : Type) : BulkOk (H := H) Rows.uptoBulk Rows.uptoBulkAll :=
  ⟨fun l => by cases l <;> simp [Rows.uptoBulk], fun s => by simp [Rows.uptoBulk], by simp [Rows.uptoBulk], fun e s => by simp [Rows.uptoBulk], fun p => by simp [Rows.uptoBulk], by simp [Rows.uptoBulkAll], fun d r => by simp [Rows.uptoBulkAll]⟩
theorem bool4 : E.P.underlying 4 = some .bool := by kernel_rfl

def laid0 : List (String × DataW Unit) := [("math/bits.deBruijn32tab", Rows.laid_math_bits_deBruijn32tab), ("math/bits.deBruijn64tab", Rows.laid_math_bits_deBruijn64tab), ("internal/strconv.uint64pow10", Rows.laid_internal_strconv_uint64pow10)]
noncomputable def fieldsOf (P : Program) (t : TypeId) : Array Field := match P.underlying t with | some (.struct fs) => fs | _ => #[]
theorem tab_laid : (Rows.laid_internal_strconv_uint64pow10 : DataW Unit) = Lib.tabData .u64 Lib.pow10Tab := by
  simp [Rows.laid_internal_strconv_uint64pow10, Lib.tabData, Lib.pow10Tab, List.range_succ]
theorem tab_is {W : World} (h : laidMetH Tryd.prog laid0 W) : Lib.TabIs Tryd.prog W "internal/strconv.uint64pow10" .u64 Lib.pow10Tab := by
  obtain ⟨ps, hv, _⟩ : laidMet Tryd.prog laid0 W := h
  obtain ⟨_, _, _, _, _, _, _, _, _, _, hv, _⟩ := hv
  obtain ⟨_, _, _, _, _, _, _, _, _, _, hv, _⟩ := hv
  obtain ⟨g', t', cs, fuel, p, q, hg', ht', hvar, hd, _, _⟩ := hv
  obtain rfl := Option.some.inj ((show Tryd.prog.globalNamed "internal/strconv.uint64pow10" = some 1 by kernel_rfl).symm.trans hg')
  obtain rfl := Option.some.inj ((show (Tryd.prog.globals[1]?).map (·.type) = some 129 by kernel_rfl).symm.trans ht')
  rw [tab_laid] at hd
  unfold Lib.TabIs
  rw [hvar, ← Lib.cells_of_tab (n := 20) (e := 112) (by kernel_rfl) (by kernel_rfl) (by kernel_rfl) (by kernel_rfl) hd]
theorem globs {W : World} (h : laidMetH Tryd.prog laid0 W) : ∀ g cs, E.G g = some cs → GR (Γ0 W.heap.size) W cs g ∧ ∀ m, Bel m (.pp cs) := by
  intro g cs hg
  by_cases h0 : g = 1
  · subst h0
    rw [E_tab] at hg
    cases hg
    refine ⟨?_, fun m => .pp _ (by simp)⟩
    have ht := tab_is h
    unfold Lib.TabIs World.var? at ht
    rw [show Tryd.prog.globalNamed "internal/strconv.uint64pow10" = some 1 by kernel_rfl] at ht
    simp only [Option.bind_some] at ht
    split at ht
    · rename_i xs tt fr hh
      have hx : xs = (Lib.pow10Tab.map fun z => Value.int .u64 z).toArray := Option.some.inj ht
      have hlt := (Array.getElem?_eq_some_iff.1 hh).1
      refine ⟨.pp _ _ 0 (fun j => .int .u64 (Lib.pow10Tab.getD j 0)) hlt (fun j x hj => ⟨?_, Ctx.fixd_of (Γ0_owns _ _)⟩) (fun _ _ _ => rfl) fun j x hj => ?_, Γ0_owns _ _, xs, tt, fr, hh, by rw [hx]; simp⟩
      · rw [List.getElem?_map, Option.map_eq_some_iff] at hj
        obtain ⟨z, hz, rfl⟩ := hj
        simp only [World.cell?, hh, Nat.zero_add, hx]
        simp [hz, List.getD]
      · rw [List.getElem?_map, Option.map_eq_some_iff] at hj
        obtain ⟨z, hz, rfl⟩ := hj
        have : Lib.pow10Tab.getD j 0 = z := by simp [List.getD, hz]
        rw [this]
        exact .c _ rfl
    · cases ht
  · simp [E, h0] at hg

/-- The parts of a struct, by their types. -/
def RdT (r : TypeId → AV → Prop) : List TypeId → List AV → Prop
  | [], cs => cs = []
  | t :: ts, cs => ∃ a cs', cs = a.cells ++ cs' ∧ r t a ∧ RdT r ts cs'
theorem rdT {r : TypeId → AV → Prop} : ∀ {fs : List Field} {cs : List AV}, RdParts r fs cs → RdT r (fs.map (·.type)) cs
  | [], _, h => h
  | f :: fs, _, ⟨a, cs', e, h, h'⟩ => ⟨a, cs', e, h, rdT h'⟩
theorem rd_struct {P : Program} {n : Nat} {t : TypeId} {a : AV} (hu : P.underlying t = some (.struct (fieldsOf P t))) (h : Rd P (n + 1) t a) : ∃ cs, a = .agg cs ∧ RdT (Rd P n) ((fieldsOf P t).toList.map (·.type)) cs := by
  rw [Rd, hu] at h
  obtain ⟨cs, e, h⟩ := h
  exact ⟨cs, e, rdT h⟩
theorem u3 : Tryd.prog.underlying 3 = some (.int .i64) := by kernel_rfl
theorem u5 : Tryd.prog.underlying 5 = some (.int .u8) := by kernel_rfl
theorem u9 : Tryd.prog.underlying 9 = some .string := by kernel_rfl
theorem u22 : Tryd.prog.underlying 23 = some (.slice 37) := by kernel_rfl
theorem u23 : Tryd.prog.underlying 22 = some (.slice 5) := by kernel_rfl
theorem ub : Tryd.prog.underlying 4 = some .bool := by kernel_rfl
theorem rd_bool {n : Nat} {a : AV} (h : Rd Tryd.prog (n + 1) 4 a) : ∃ b, a = boolV b := by
  rw [Rd, ub] at h
  exact h
theorem rd_str {n : Nat} {a : AV} (h : Rd Tryd.prog (n + 1) 9 a) : ∃ w : W, a = str w := by
  rw [Rd, u9] at h
  obtain ⟨s, rfl, _⟩ := h
  exact ⟨s.data.toList, rfl⟩
theorem rd_int {n : Nat} {a : AV} (h : Rd Tryd.prog (n + 1) 3 a) : ∃ z : Int, a = intV z ∧ z < 9223372036854775808 := by
  rw [Rd, u3] at h
  obtain ⟨z, rfl, _, h2⟩ := h
  exact ⟨z, rfl, by have : IntKind.i64.max = 9223372036854775807 := by decide
                    omega⟩
theorem rd_bytes {n : Nat} {a : AV} (h : Rd Tryd.prog (n + 2) 22 a) : ∃ w : W, a = bytes w := by
  rw [Rd, u23] at h
  obtain ⟨es, rfl, _, hes⟩ := h
  obtain ⟨l, rfl⟩ := bytes_of (es := es) fun x hx => by
    have := hes x hx
    rw [Rd, u5] at this
    exact this
  exact ⟨l, rfl⟩
theorem rd_mem {n : Nat} {a : AV} (h : Rd Tryd.prog (n + 3) 37 a) : ∃ m : M, a = memV m ∧ m.t < 9223372036854775808 ∧ m.u < 9223372036854775808 ∧ m.g < 9223372036854775808 ∧ m.m < 9223372036854775808 := by
  obtain ⟨cs, e, h'⟩ := rd_struct (by kernel_rfl) h
  subst e
  clear h
  rw [show (fieldsOf Tryd.prog 37).toList.map (·.type) = [9, 3, 3, 3, 3, 22] by kernel_rfl] at h'
  obtain ⟨_, _, rfl, h1, _, _, rfl, h2, _, _, rfl, h3, _, _, rfl, h4, _, _, rfl, h5, _, _, rfl, h6, rfl⟩ := h'
  obtain ⟨w, rfl⟩ := rd_str h1
  obtain ⟨t, rfl, t'⟩ := rd_int h2
  obtain ⟨u, rfl, u'⟩ := rd_int h3
  obtain ⟨g, rfl, g'⟩ := rd_int h4
  obtain ⟨m, rfl, m'⟩ := rd_int h5
  obtain ⟨d, rfl⟩ := rd_bytes h6
  exact ⟨⟨w, t, u, g, m, d⟩, by simp [AV.cells], t', u', g', m'⟩
theorem rd_mems {n : Nat} {a : AV} (h : Rd Tryd.prog (n + 4) 23 a) : ∃ l : List M, a = memsV l ∧ l.length ≤ 9223372036854775807 ∧ inR l := by
  rw [Rd, u22] at h
  obtain ⟨es, rfl, hl, hes⟩ := h
  obtain ⟨l, rfl, hp⟩ := list_of (f := memV) (p := fun m => m.t < 9223372036854775808 ∧ m.u < 9223372036854775808 ∧ m.g < 9223372036854775808 ∧ m.m < 9223372036854775808) (es := es) fun x hx => by
    obtain ⟨m, e, h'⟩ := rd_mem (hes x hx)
    exact ⟨m, e, h'⟩
  exact ⟨l, rfl, by simpa using hl, hp⟩
theorem door_met (os : Os) (args : Array Value) : laidMetH Tryd.prog laid0 ((World.doorLaid Tryd.prog 17 os).forCall (fun _ _ => 0) ⟨#[], args, []⟩).memory :=
  laidMetH_of_parts3 (fuel := 8) (laidMet_of_run' 8 (by kernel_rfl) (by kernel_rfl)) (by kernel_rfl) (by kernel_rfl)
end Go.Proofs.YtfonamgmfljhlaaDoor
