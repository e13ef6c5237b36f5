/- What the cards of the laws that parse archives share: the laid variables, a world in which they are laid, the reading of arguments. No condition. -/
import Derived.Test.YtcjdagpadnahfaaGreatDoorP9
import Derived.Test.YtcjdagpadnahfaaGreatDoorCards
import Derived.Test.YtcjdagpadnahfaaGreatDoorTie
import Derived.Handed
import Derived.JoinedOf
import Derived.Deep.DeepHandedRow
import Derived.Deep.DeepWitnessRowRef
import Derived.LaidHandle
import Derived.LaidMore
import Derived.OpenShut
import Derived.Lay
import Derived.Shelf.Vars
set_option linter.unusedVariables false
set_option linter.unusedSimpArgs false
set_option linter.unnecessarySimpa false
namespace Go.Proofs.YtcjdagpadnahfaaGreatDoor
open Go Go.AW
set_option maxRecDepth 100000
set_option maxHeartbeats 8000000

theorem own : ownKnob Tryz.prog.godebug = none := by kernel_rfl
theorem laidOut : laidOutB E.P = true := by kernel_rfl
theorem bulkOk (H : Type) : BulkOk (H := H) Rows.uptoBulk Rows.uptoBulkAll :=
  ⟨fun l => by cases l <;> simp [Rows.uptoBulk], fun s => by simp [Rows.uptoBulk], by simp [Rows.uptoBulk], fun e s => by simp [Rows.uptoBulk], fun p => by simp [Rows.uptoBulk], by simp [Rows.uptoBulkAll], fun d r => by simp [Rows.uptoBulkAll]⟩
theorem bool4 : E.P.underlying 4 = some .bool := by kernel_rfl

def laid0 : List (String × DataW Unit) := [("math/bits.deBruijn32tab", Rows.laid_math_bits_deBruijn32tab), ("math/bits.deBruijn64tab", Rows.laid_math_bits_deBruijn64tab), ("internal/strconv.uint64pow10", Rows.laid_internal_strconv_uint64pow10), ("unicode/utf8.acceptRanges", Rows.laid_unicode_utf8_acceptRanges), ("unicode/utf8.first", Rows.laid_unicode_utf8_first)]
noncomputable def fieldsOf (P : Program) (t : TypeId) : Array Field := match P.underlying t with | some (.struct fs) => fs | _ => #[]
theorem tab_laid : (Rows.laid_internal_strconv_uint64pow10 : DataW Unit) = Lib.tabData .u64 Lib.pow10Tab := by
  simp [Rows.laid_internal_strconv_uint64pow10, Lib.tabData, Lib.pow10Tab, List.range_succ]
theorem tab_is {W : World} (h : laidMetH Tryz.prog laid0 W) : Lib.TabIs Tryz.prog W "internal/strconv.uint64pow10" .u64 Lib.pow10Tab := by
  obtain ⟨ps, hv, _⟩ : laidMet Tryz.prog laid0 W := h
  obtain ⟨_, _, _, _, _, _, _, _, _, _, hv, _⟩ := hv
  obtain ⟨_, _, _, _, _, _, _, _, _, _, hv, _⟩ := hv
  obtain ⟨g', t', cs, fuel, p, q, hg', ht', hvar, hd, _, _⟩ := hv
  obtain rfl := Option.some.inj ((show Tryz.prog.globalNamed "internal/strconv.uint64pow10" = some 1 by kernel_rfl).symm.trans hg')
  obtain rfl := Option.some.inj ((show (Tryz.prog.globals[1]?).map (·.type) = some 241 by kernel_rfl).symm.trans ht')
  rw [tab_laid] at hd
  unfold Lib.TabIs
  rw [hvar, ← Lib.cells_of_tab (n := 20) (e := 217) (by kernel_rfl) (by kernel_rfl) (by kernel_rfl) (by kernel_rfl) hd]
theorem globs {W : World} (h : laidMetH Tryz.prog laid0 W) : ∀ g cs, E.G g = some cs → GR (Γ0 W.heap.size) W cs g ∧ ∀ m, Bel m (.pp cs) := by
  intro g cs hg
  by_cases h0 : g = 1
  · subst h0
    rw [E_tab] at hg
    cases hg
    refine ⟨?_, fun m => .pp _ (by simp)⟩
    have ht := tab_is h
    unfold Lib.TabIs World.var? at ht
    rw [show Tryz.prog.globalNamed "internal/strconv.uint64pow10" = some 1 by kernel_rfl] at ht
    simp only [Option.bind_some] at ht
    split at ht
    · rename_i xs tt fr hh
      have hx : xs = (Lib.pow10Tab.map fun z => Value.int .u64 z).toArray := Option.some.inj ht
      have hlt := (Array.getElem?_eq_some_iff.1 hh).1
      refine ⟨.pp _ _ 0 (fun j => .int .u64 (Lib.pow10Tab.getD j 0)) hlt (fun j x hj => ⟨?_, Ctx.fixd_of (Γ0_owns _ _)⟩) (fun _ _ _ => rfl) fun j x hj => ?_, Γ0_owns _ _, xs, tt, fr, hh, by rw [hx]; simp⟩
      · rw [List.getElem?_map, Option.map_eq_some_iff] at hj
        obtain ⟨z, hz, rfl⟩ := hj
        simp only [World.cell?, hh, Nat.zero_add, hx]
        simp [hz, List.getD]
      · rw [List.getElem?_map, Option.map_eq_some_iff] at hj
        obtain ⟨z, hz, rfl⟩ := hj
        have : Lib.pow10Tab.getD j 0 = z := by simp [List.getD, hz]
        rw [this]
        exact .c _ rfl
    · cases ht
  · simp [E, h0] at hg

/-- The variable that bounds a library's search holds some number. -/
theorem maxLen {W : World} (hS : W.ShapedOpen Tryz.prog) : ∃ m xs tt fr, W.heap[0]? = some (.cells xs tt fr) ∧ xs = #[Value.int .i64 m] := by
  have h0 : ((begin Tryz.prog (fun _ _ => 0) default).world.heap[0]?).bind Obj.row? = some (#[.int .i64 0], 3) := by kernel_rfl
  obtain ⟨m, hm⟩ := cell_of_shapedOpen_int (k := .i64) hS (of_decide_eq_true (by kernel_rfl)) h0 rfl (by kernel_rfl) (by kernel_rfl) (by kernel_rfl)
  obtain ⟨cs, hh, hs, _⟩ := hS.1 _ _ _ (of_decide_eq_true (by kernel_rfl)) h0
  refine ⟨m, cs, _, _, hh, ?_⟩
  simp only [World.cell?, hh] at hm
  have h1 : cs.size = 1 := hs
  refine Array.ext (by simpa using h1) fun i hi hi' => ?_
  have : i = 0 := by omega
  subst this
  rw [Array.getElem?_eq_getElem hi] at hm
  simpa using hm
theorem globsM {W : World} (h : laidMetH Tryz.prog laid0 W) (hS : W.ShapedOpen Tryz.prog) : ∃ m, ∀ g cs, (EM m).G g = some cs → GR (Γ0 W.heap.size) W cs g ∧ ∀ n, Bel n (.pp cs) := by
  obtain ⟨m, xs, tt, fr, hh, hx⟩ := maxLen hS
  refine ⟨m, fun g cs hg => ?_⟩
  by_cases h0 : g = 0
  · subst h0
    simp [EM, GM] at hg
    subst hg
    refine ⟨?_, fun n => .pp _ (by simp)⟩
    have hlt := (Array.getElem?_eq_some_iff.1 hh).1
    refine ⟨.pp _ _ 0 (fun _ => .int .i64 m) hlt (fun j x hj => ⟨?_, Ctx.fixd_of (Γ0_owns _ _)⟩) (fun _ _ _ => rfl) fun j x hj => ?_, Γ0_owns _ _, xs, tt, fr, hh, by rw [hx]; simp⟩
    · cases j with
      | zero => simp [World.cell?, hh, hx]
      | succ j => simp at hj
    · cases j with
      | zero => simp at hj; subst hj; exact .c _ rfl
      | succ j => simp at hj
  · simp [EM, GM, h0] at hg
    exact globs h g cs hg
/-- The parts of a struct, by their types. -/
def RdT (r : TypeId → AV → Prop) : List TypeId → List AV → Prop
  | [], cs => cs = []
  | t :: ts, cs => ∃ a cs', cs = a.cells ++ cs' ∧ r t a ∧ RdT r ts cs'
theorem rdT {r : TypeId → AV → Prop} : ∀ {fs : List Field} {cs : List AV}, RdParts r fs cs → RdT r (fs.map (·.type)) cs
  | [], _, h => h
  | f :: fs, _, ⟨a, cs', e, h, h'⟩ => ⟨a, cs', e, h, rdT h'⟩
theorem rd_struct {P : Program} {n : Nat} {t : TypeId} {a : AV} (hu : P.underlying t = some (.struct (fieldsOf P t))) (h : Rd P (n + 1) t a) : ∃ cs, a = .agg cs ∧ RdT (Rd P n) ((fieldsOf P t).toList.map (·.type)) cs := by
  rw [Rd, hu] at h
  obtain ⟨cs, e, h⟩ := h
  exact ⟨cs, e, rdT h⟩
theorem u3 : Tryz.prog.underlying 3 = some (.int .i64) := by kernel_rfl
theorem u5 : Tryz.prog.underlying 5 = some (.int .u8) := by kernel_rfl
theorem u9 : Tryz.prog.underlying 9 = some .string := by kernel_rfl
theorem u22 : Tryz.prog.underlying 22 = some (.slice 46) := by kernel_rfl
theorem u23 : Tryz.prog.underlying 23 = some (.slice 5) := by kernel_rfl
theorem rd_str {n : Nat} {a : AV} (h : Rd Tryz.prog (n + 1) 9 a) : ∃ w : W, a = str w := by
  rw [Rd, u9] at h
  obtain ⟨s, rfl, _⟩ := h
  exact ⟨s.data.toList, rfl⟩
theorem rd_int {n : Nat} {a : AV} (h : Rd Tryz.prog (n + 1) 3 a) : ∃ z : Int, a = intV z ∧ z < 9223372036854775808 := by
  rw [Rd, u3] at h
  obtain ⟨z, rfl, _, h2⟩ := h
  exact ⟨z, rfl, by have : IntKind.i64.max = 9223372036854775807 := by decide
                    omega⟩
theorem rd_bytes {n : Nat} {a : AV} (h : Rd Tryz.prog (n + 2) 23 a) : ∃ w : W, a = bytes w ∧ w.length ≤ 9223372036854775807 := by
  rw [Rd, u23] at h
  obtain ⟨es, rfl, hl, hes⟩ := h
  obtain ⟨l, rfl⟩ := bytes_of (es := es) fun x hx => by
    have := hes x hx
    rw [Rd, u5] at this
    exact this
  exact ⟨l, rfl, by simpa using hl⟩
theorem rd_mem {n : Nat} {a : AV} (h : Rd Tryz.prog (n + 3) 46 a) : ∃ m : M, a = memV m ∧ m.t < 9223372036854775808 ∧ m.u < 9223372036854775808 ∧ m.g < 9223372036854775808 ∧ m.m < 9223372036854775808 := by
  obtain ⟨cs, e, h'⟩ := rd_struct (by kernel_rfl) h
  subst e
  clear h
  rw [show (fieldsOf Tryz.prog 46).toList.map (·.type) = [9, 3, 3, 3, 3, 23] by kernel_rfl] at h'
  obtain ⟨_, _, rfl, h1, _, _, rfl, h2, _, _, rfl, h3, _, _, rfl, h4, _, _, rfl, h5, _, _, rfl, h6, rfl⟩ := h'
  obtain ⟨w, rfl⟩ := rd_str h1
  obtain ⟨t, rfl, t'⟩ := rd_int h2
  obtain ⟨u, rfl, u'⟩ := rd_int h3
  obtain ⟨g, rfl, g'⟩ := rd_int h4
  obtain ⟨m, rfl, m'⟩ := rd_int h5
  obtain ⟨d, rfl, _⟩ := rd_bytes h6
  exact ⟨⟨w, t, u, g, m, d⟩, by simp [AV.cells], t', u', g', m'⟩
theorem rd_mems {n : Nat} {a : AV} (h : Rd Tryz.prog (n + 4) 22 a) : ∃ l : List M, a = memsV l ∧ l.length ≤ 9223372036854775807 ∧ ∀ m ∈ l, m.t < 9223372036854775808 ∧ m.u < 9223372036854775808 ∧ m.g < 9223372036854775808 ∧ m.m < 9223372036854775808 := by
  rw [Rd, u22] at h
  obtain ⟨es, rfl, hl, hes⟩ := h
  obtain ⟨l, rfl, hp⟩ := list_of (f := memV) (p := fun m => m.t < 9223372036854775808 ∧ m.u < 9223372036854775808 ∧ m.g < 9223372036854775808 ∧ m.m < 9223372036854775808) (es := es) fun x hx => by
    obtain ⟨m, e, h'⟩ := rd_mem (hes x hx)
    exact ⟨m, e, h'⟩
  exact ⟨l, rfl, by simpa using hl, hp⟩
noncomputable def wit (os : Os) : World := World.laidAll Tryz.prog os laid0
theorem door_met (os : Os) (args : Array Value) : laidMetH Tryz.prog laid0 ((wit os).forCall (fun _ _ => 0) ⟨#[], args, []⟩).memory := by
  have h : laidMet Tryz.prog laid0 ((wit os).forCall (fun _ _ => 0) ⟨#[], args, []⟩).memory := laidMet_laidAll args (by kernel_rfl) (by kernel_rfl)
  exact h
end Go.Proofs.YtcjdagpadnahfaaGreatDoor
