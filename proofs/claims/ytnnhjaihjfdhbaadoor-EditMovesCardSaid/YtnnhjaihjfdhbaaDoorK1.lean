/- What all cards of this seat share: the laid table of functions, a world in which it is laid, the reading of members. No condition. -/
import Derived.Test.YtnnhjaihjfdhbaaDoorP1
import Derived.Test.YtnnhjaihjfdhbaaDoorCards
import Derived.Test.YtnnhjaihjfdhbaaDoorTie
import Derived.Handed
import Derived.JoinedOf
import Derived.Deep.DeepHandedRow
import Derived.Deep.DeepWitnessRowRef
import Derived.LaidHandle
import Derived.LaidMore
import Derived.OpenShut
set_option linter.unusedVariables false
set_option linter.unusedSimpArgs false
set_option linter.unnecessarySimpa false
namespace Go.Proofs.YtnnhjaihjfdhbaaDoor
open Go Go.AW
set_option maxRecDepth 100000
set_option maxHeartbeats 8000000

theorem own : ownKnob Tryd.prog.godebug = none := by kernel_rfl
theorem laidOut : laidOutB E.P = true := by kernel_rfl
theorem bulkOk (H : Type) : BulkOk (H := H) Rows.uptoBulk Rows.uptoBulkAll :=
  ⟨fun l => by cases l <;> simp [Rows.uptoBulk], fun s => by simp [Rows.uptoBulk], by simp [Rows.uptoBulk], fun e s => by simp [Rows.uptoBulk], fun p => by simp [Rows.uptoBulk], by simp [Rows.uptoBulkAll], fun d r => by simp [Rows.uptoBulkAll]⟩
theorem bool4 : E.P.underlying 4 = some .bool := by kernel_rfl

def laid0 : List (String × DataW Unit) := [("arlink/edit.modes", Rows.laid_arlink_edit_modes)]
noncomputable def fieldsOf (P : Program) (t : TypeId) : Array Field := match P.underlying t with | some (.struct fs) => fs | _ => #[]
theorem entry {W : World} {m : Nat} {a b : Value} {t : Bool} {c : UInt8} {r : List UInt8} {p : List MemPlace} {f0 : FuncId}
    (hone : ((List.range Tryd.prog.funcs.size).filter fun f => (Tryd.prog.funcs[f]?).any (·.name.toUTF8.data.toList == c :: r)) = [f0])
    (h : DataW.trod (funcToken Tryd.prog) Tryd.prog W 0 (fun _ => true) true m 71 [a, b] = some (.agg [.lit (.bool t), .held (c :: r)], p)) : a = .bool t ∧ b = .func (.func f0) #[] #[] := by
  obtain ⟨xs, n, _, hx, _, hl, hall⟩ := DataW.trod_struct (fs := fieldsOf Tryd.prog 71) (by kernel_rfl) h
  rw [show (fieldsOf Tryd.prog 71).size = 2 by kernel_rfl] at hl
  have g0 : ((fieldsOf Tryd.prog 71)[0]?).map (fun f => (f.type, f.offset)) = some (4, 0) := by kernel_rfl
  have g1 : ((fieldsOf Tryd.prog 71)[1]?).map (fun f => (f.type, f.offset)) = some (69, 1) := by kernel_rfl
  rw [Option.map_eq_some_iff] at g0 g1
  obtain ⟨f0', h0, e0⟩ := g0
  obtain ⟨f1', h1, e1⟩ := g1
  match xs, hl with
  | [x0, x1], _ =>
    simp at hx e0 e1
    obtain ⟨⟨hx0, hx1⟩, _⟩ := hx
    have k0 := hall 0 _ h0
    have k1 := hall 1 _ h1
    rw [e0.1, e0.2, show Tryd.prog.cellsOf 4 = 1 by kernel_rfl] at k0
    rw [e1.1, e1.2, show Tryd.prog.cellsOf 69 = 1 by kernel_rfl] at k1
    simp at k0 k1
    obtain ⟨b', hb, hb2⟩ := DataW.trod_bool (by kernel_rfl) k0
    obtain ⟨y0, q0⟩ := x0
    obtain ⟨y1, q1⟩ := x1
    simp at hx0 hx1 hb hb2
    subst hx1
    refine ⟨?_, func_of_trod (q := q1) (show Tryd.prog.underlying 69 = some (.func #[22, 3] #[3] false) by kernel_rfl) hone k1⟩
    rw [hb2.1] at hx0
    cases hx0
    exact hb
theorem of_laid {W : World} (h : laidMetH Tryd.prog laid0 W) : ∃ cs : Array Value, cs.toList = [.bool false, .func (.func 62) #[] #[], .bool true, .func (.func 63) #[] #[], .bool true, .func (.func 64) #[] #[]] ∧ ∀ i, W.cell? ⟨0, i, none⟩ = cs[i]? := by
  obtain ⟨g, t, cs, fuel, p, hg, ht, hv, hd⟩ := h.funcs (n := "arlink/edit.modes") (List.mem_cons_self ..)
  obtain rfl := Option.some.inj ((show Tryd.prog.globalNamed "arlink/edit.modes" = some 0 by kernel_rfl).symm.trans hg)
  obtain rfl := Option.some.inj ((show (Tryd.prog.globals[0]?).map (·.type) = some 72 by kernel_rfl).symm.trans ht)
  refine ⟨cs, ?_, World.var?_cell hg hv⟩
  generalize cs.toList = l at hd
  obtain ⟨xs, m, _, hx, hc, hl, hall⟩ := DataW.trod_array (n := 3) (e := 71) (by kernel_rfl) hd
  rw [show Tryd.prog.cellsOf 72 = 6 by kernel_rfl] at hc
  rw [show Tryd.prog.cellsOf 71 = 2 by kernel_rfl] at hall
  match l, hc, xs, hl with
  | [a0, a1, a2, a3, a4, a5], _, [x0, x1, x2], _ =>
    have k0 := hall 0 (by omega)
    have k1 := hall 1 (by omega)
    have k2 := hall 2 (by omega)
    simp [DataW.funcsOut, DataW.funcsOutAll] at hx k0 k1 k2
    obtain ⟨⟨hx0, hx1, hx2⟩, _⟩ := hx
    obtain ⟨y0, q0⟩ := x0
    obtain ⟨y1, q1⟩ := x1
    obtain ⟨y2, q2⟩ := x2
    simp at hx0 hx1 hx2
    subst hx0 hx1 hx2
    obtain ⟨rfl, rfl⟩ := entry (f0 := 62) (by kernel_rfl) k0
    obtain ⟨rfl, rfl⟩ := entry (f0 := 63) (by kernel_rfl) k1
    obtain ⟨rfl, rfl⟩ := entry (f0 := 64) (by kernel_rfl) k2
    rfl
theorem globs {W : World} (h : laidMetH Tryd.prog laid0 W) : ∀ g cs, E.G g = some cs → VR (Γ0 W.heap.size) W (.pp cs) (.pointer (some ⟨g, 0, none⟩)) ∧ ∀ m, Bel m (.pp cs) := by
  intro g cs hg
  by_cases h0 : g = 0
  · subst h0
    rw [E_G0] at hg
    cases hg
    refine ⟨?_, by simp⟩
    obtain ⟨vs, hl, hc⟩ := of_laid h
    have hc : ∀ i, W.cell? ⟨0, i, none⟩ = [Value.bool false, .func (.func 62) #[] #[], .bool true, .func (.func 63) #[] #[], .bool true, .func (.func 64) #[] #[]][i]? := fun i => by rw [hc, ← hl, Array.getElem?_toList]
    clear hl
    have fn : ∀ k : FuncId, VR (Γ0 W.heap.size) W (.fn (.func k) [] []) (.func (.func k) #[] #[]) := fun k => .fn _ _ _ #[] #[] rfl rfl (fun j a x h => by simp at h) (fun j a x h => by simp at h)
    have hlt : 0 < W.heap.size := by
      have := hc 0
      unfold World.cell? at this
      rcases Nat.eq_zero_or_pos W.heap.size with h | h
      · simp [h] at this
      · exact h
    refine .pp _ 0 0 (fun j => ([Value.bool false, .func (.func 62) #[] #[], .bool true, .func (.func 63) #[] #[], .bool true, .func (.func 64) #[] #[]][j]?).getD Go.undef) hlt ?_ ?_ ?_
    all_goals
      intro j x hx
      match j, hx with
      | 0, hx | 1, hx | 2, hx | 3, hx | 4, hx | 5, hx =>
        simp at hx
        subst hx
        first
        | exact ⟨by rw [hc]; rfl, Ctx.fixd_of (Γ0_owns _ _)⟩
        | rfl
        | exact .c _ rfl
        | exact fn _
  · simp [E, h0] at hg

/-- The parts of a struct, by their types. -/
def RdT (r : TypeId → AV → Prop) : List TypeId → List AV → Prop
  | [], cs => cs = []
  | t :: ts, cs => ∃ a cs', cs = a.cells ++ cs' ∧ r t a ∧ RdT r ts cs'
theorem rdT {r : TypeId → AV → Prop} : ∀ {fs : List Field} {cs : List AV}, RdParts r fs cs → RdT r (fs.map (·.type)) cs
  | [], _, h => h
  | f :: fs, _, ⟨a, cs', e, h, h'⟩ => ⟨a, cs', e, h, rdT h'⟩
theorem rd_struct {P : Program} {n : Nat} {t : TypeId} {a : AV} (hu : P.underlying t = some (.struct (fieldsOf P t))) (h : Rd P (n + 1) t a) : ∃ cs, a = .agg cs ∧ RdT (Rd P n) ((fieldsOf P t).toList.map (·.type)) cs := by
  rw [Rd, hu] at h
  obtain ⟨cs, e, h⟩ := h
  exact ⟨cs, e, rdT h⟩
theorem u3 : Tryd.prog.underlying 3 = some (.int .i64) := by kernel_rfl
theorem u5 : Tryd.prog.underlying 5 = some (.int .u8) := by kernel_rfl
theorem u9 : Tryd.prog.underlying 9 = some .string := by kernel_rfl
theorem u22 : Tryd.prog.underlying 22 = some (.slice 25) := by kernel_rfl
theorem u23 : Tryd.prog.underlying 23 = some (.slice 5) := by kernel_rfl
theorem rd_str {n : Nat} {a : AV} (h : Rd Tryd.prog (n + 1) 9 a) : ∃ w : W, a = str w := by
  rw [Rd, u9] at h
  obtain ⟨s, rfl, _⟩ := h
  exact ⟨s.data.toList, rfl⟩
theorem rd_int {n : Nat} {a : AV} (h : Rd Tryd.prog (n + 1) 3 a) : ∃ z : Int, a = intV z := by
  rw [Rd, u3] at h
  obtain ⟨z, rfl, _⟩ := h
  exact ⟨z, rfl⟩
theorem rd_bytes {n : Nat} {a : AV} (h : Rd Tryd.prog (n + 2) 23 a) : ∃ w : W, a = bytes w := by
  rw [Rd, u23] at h
  obtain ⟨es, rfl, _, hes⟩ := h
  obtain ⟨l, rfl⟩ := bytes_of (es := es) fun x hx => by
    have := hes x hx
    rw [Rd, u5] at this
    exact this
  exact ⟨l, rfl⟩
theorem rd_mem {n : Nat} {a : AV} (h : Rd Tryd.prog (n + 3) 25 a) : ∃ m : M, a = memV m := by
  obtain ⟨cs, e, h'⟩ := rd_struct (by kernel_rfl) h
  subst e
  clear h
  rw [show (fieldsOf Tryd.prog 25).toList.map (·.type) = [9, 3, 3, 3, 3, 23] by kernel_rfl] at h'
  obtain ⟨_, _, rfl, h1, _, _, rfl, h2, _, _, rfl, h3, _, _, rfl, h4, _, _, rfl, h5, _, _, rfl, h6, rfl⟩ := h'
  obtain ⟨w, rfl⟩ := rd_str h1
  obtain ⟨t, rfl⟩ := rd_int h2
  obtain ⟨u, rfl⟩ := rd_int h3
  obtain ⟨g, rfl⟩ := rd_int h4
  obtain ⟨m, rfl⟩ := rd_int h5
  obtain ⟨d, rfl⟩ := rd_bytes h6
  exact ⟨⟨w, t, u, g, m, d⟩, by simp [AV.cells]⟩
theorem rd_mems {n : Nat} {a : AV} (h : Rd Tryd.prog (n + 4) 22 a) : ∃ l : List M, a = memsV l := by
  rw [Rd, u22] at h
  obtain ⟨es, rfl, _, hes⟩ := h
  obtain ⟨l, rfl, _⟩ := list_of (f := memV) (p := fun _ => True) (es := es) fun x hx => by
    obtain ⟨m, e⟩ := rd_mem (hes x hx)
    exact ⟨m, e, trivial⟩
  exact ⟨l, rfl⟩
theorem rd_pl {n : Nat} {a : AV} (h : Rd Tryd.prog (n + 2) 27 a) : ∃ p : Pl, a = plV p := by
  obtain ⟨cs, e, h'⟩ := rd_struct (by kernel_rfl) h
  subst e
  clear h
  rw [show (fieldsOf Tryd.prog 27).toList.map (·.type) = [3, 9] by kernel_rfl] at h'
  obtain ⟨_, _, rfl, h1, _, _, rfl, h2, rfl⟩ := h'
  obtain ⟨z, rfl⟩ := rd_int h1
  obtain ⟨w, rfl⟩ := rd_str h2
  exact ⟨(z, w), by simp [AV.cells]⟩
theorem door_met (os : Os) (args : Array Value) : laidMetH Tryd.prog laid0 ((World.doorLaid Tryd.prog 17 os).forCall (fun _ _ => 0) ⟨#[], args, []⟩).memory :=
  laidMetH_of_parts3 (fuel := 8) (laidMet_of_run' 8 (by kernel_rfl) (by kernel_rfl)) (by kernel_rfl) (by kernel_rfl)
end Go.Proofs.YtnnhjaihjfdhbaaDoor
