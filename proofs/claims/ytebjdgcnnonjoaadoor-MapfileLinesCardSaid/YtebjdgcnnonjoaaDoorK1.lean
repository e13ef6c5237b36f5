/- What all cards of this seat share: the laid variables, a world in which they are laid, the reading of maps. No condition. -/
import Derived.Test.YtebjdgcnnonjoaaDoorGE
import Derived.Test.YtebjdgcnnonjoaaDoorGG
import Derived.Test.YtebjdgcnnonjoaaDoorCards
import Derived.Test.YtebjdgcnnonjoaaDoorTie
import Derived.Handed
import Derived.JoinedOf
import Derived.Deep.DeepHandedRow
import Derived.Deep.DeepWitnessRowRef
import Derived.LaidHandle
import Derived.LaidMore
import Derived.Lay
import Derived.OpenShut
set_option linter.unusedVariables false
set_option linter.unusedSimpArgs false
set_option linter.unnecessarySimpa false
namespace Go.Proofs.YtebjdgcnnonjoaaDoor
open Go Go.AW
set_option maxRecDepth 100000
set_option maxHeartbeats 8000000

theorem own : ownKnob Tryd.prog.godebug = none := by kernel_rfl
theorem laidOut : laidOutB E.P = true := by kernel_rfl
theorem bulkOk (H : Type) : BulkOk (H := H) Rows.uptoBulk Rows.uptoBulkAll :=
  ⟨fun l => by cases l <;> simp [Rows.uptoBulk], fun s => by simp [Rows.uptoBulk], by simp [Rows.uptoBulk], fun e s => by simp [Rows.uptoBulk], fun p => by simp [Rows.uptoBulk], by simp [Rows.uptoBulkAll], fun d r => by simp [Rows.uptoBulkAll]⟩
theorem bool4 : E.P.underlying 4 = some .bool := by kernel_rfl

def laid0 : List (String × DataW Unit) := [("math/bits.deBruijn32tab", Rows.laid_math_bits_deBruijn32tab), ("math/bits.deBruijn64tab", Rows.laid_math_bits_deBruijn64tab), ("internal/strconv.uint64pow10", Rows.laid_internal_strconv_uint64pow10), ("unicode/utf8.acceptRanges", Rows.laid_unicode_utf8_acceptRanges), ("strconv.ErrRange", Rows.laid_strconv_ErrRange), ("strconv.ErrSyntax", Rows.laid_strconv_ErrSyntax), ("arlink/mapfile.bindings", Rows.laid_arlink_mapfile_bindings), ("unicode/utf8.first", Rows.laid_unicode_utf8_first)]
noncomputable def fieldsOf (P : Program) (t : TypeId) : Array Field := match P.underlying t with | some (.struct fs) => fs | _ => #[]
theorem tab_laid : (Rows.laid_internal_strconv_uint64pow10 : DataW Unit) = Lib.tabData .u64 Lib.pow10Tab := by
  simp [Rows.laid_internal_strconv_uint64pow10, Lib.tabData, Lib.pow10Tab, List.range_succ]
theorem tab_is {W : World} (h : laidMetH Tryd.prog laid0 W) : Lib.TabIs Tryd.prog W "internal/strconv.uint64pow10" .u64 Lib.pow10Tab := by
  obtain ⟨ps, hv, _⟩ : laidMet Tryd.prog laid0 W := h
  obtain ⟨_, _, _, _, _, _, _, _, _, _, hv, _⟩ := hv
  obtain ⟨_, _, _, _, _, _, _, _, _, _, hv, _⟩ := hv
  obtain ⟨g', t', cs, fuel, p, q, hg', ht', hvar, hd, _, _⟩ := hv
  obtain rfl := Option.some.inj ((show Tryd.prog.globalNamed "internal/strconv.uint64pow10" = some 4 by kernel_rfl).symm.trans hg')
  obtain rfl := Option.some.inj ((show (Tryd.prog.globals[4]?).map (·.type) = some 132 by kernel_rfl).symm.trans ht')
  rw [tab_laid] at hd
  unfold Lib.TabIs
  rw [hvar, ← Lib.cells_of_tab (n := 20) (e := 113) (by kernel_rfl) (by kernel_rfl) (by kernel_rfl) (by kernel_rfl) hd]
/-- An array of strings that reads as the words holds them. -/
theorem cells_of_strs {H : Type} {enc : TypeId × Value → H} {P : Program} {w : World} {base : Nat} {sp : Nat → Bool} {held : Bool} {fuel : Nat} {t e : TypeId} {n : Nat} {cs : List Value} {ws : List W} {p : List MemPlace}
    (ht : P.underlying t = some (.array n e)) (he : P.underlying e = some .string) (hce : P.cellsOf e = 1) (hct : P.cellsOf t = n)
    (h : DataW.trod enc P w base sp held fuel t cs = some (.agg (ws.map fun z => .lit (.string z)), p)) : cs = ws.map fun z => Value.string (bs z) := by
  cases fuel with
  | zero => simp [DataW.trod] at h
  | succ fuel =>
    simp only [DataW.trod, ht, hce, hct, Nat.mul_one] at h
    split at h
    · rename_i hl
      obtain ⟨xs, hm, hx⟩ := Option.map_eq_some_iff.1 h
      have hxs : xs.map (·.1) = ws.map fun z => (DataW.lit (.string z) : DataW H) := by
        have := congrArg Prod.fst hx
        simpa using this
      have hxl : xs.length = n := by simpa using Lib.mapM_length hm
      have hzl : ws.length = n := by
        have := congrArg List.length hxs
        simp at this
        omega
      apply List.ext_getElem?
      intro i
      by_cases hi : i < n
      · obtain ⟨b, hb, hf⟩ := Lib.mapM_at hm i i (by simp [hi])
        obtain ⟨z, hc, rfl, _⟩ := DataW.trod_string he hf
        have h1 : cs[i]? = some (.string z) := by
          have := congrArg (·[0]?) hc
          simpa [List.getElem?_take, List.getElem?_drop] using this
        have h2 : (xs.map (·.1))[i]? = some (DataW.lit (.string z.data.toList) : DataW H) := by simp [hb]
        rw [hxs] at h2
        simp only [List.getElem?_map, Option.map_eq_some_iff, DataW.lit.injEq, Lit.string.injEq] at h2
        obtain ⟨z', hz', e⟩ := h2
        rw [h1, List.getElem?_map, hz', e]; rfl
      · rw [List.getElem?_eq_none (by omega), List.getElem?_eq_none (by simp; omega)]
    · cases h
theorem bnd_laid : (Rows.laid_arlink_mapfile_bindings : DataW Unit) = .agg (bnames.map fun z => .lit (.string z)) := by
  simp [Rows.laid_arlink_mapfile_bindings, bnames]
theorem bnd_is {W : World} (h : laidMetH Tryd.prog laid0 W) : ∃ xs tt fr, W.heap[0]? = some (.cells xs tt fr) ∧ xs = (bnames.map fun z => Value.string (bs z)).toArray := by
  obtain ⟨ps, hv, _⟩ : laidMet Tryd.prog laid0 W := h
  obtain ⟨_, _, _, _, _, _, _, _, _, _, hv, _⟩ := hv
  obtain ⟨_, _, _, _, _, _, _, _, _, _, hv, _⟩ := hv
  obtain ⟨_, _, _, _, _, _, _, _, _, _, hv, _⟩ := hv
  obtain ⟨_, _, _, _, _, _, _, _, _, _, hv, _⟩ := hv
  obtain ⟨_, _, _, _, _, _, _, _, _, _, hv, _⟩ := hv
  obtain ⟨_, _, _, _, _, _, _, _, _, _, hv, _⟩ := hv
  obtain ⟨g', t', cs, fuel, p, q, hg', ht', hvar, hd, _, _⟩ := hv
  obtain rfl := Option.some.inj ((show Tryd.prog.globalNamed "arlink/mapfile.bindings" = some 0 by kernel_rfl).symm.trans hg')
  obtain rfl := Option.some.inj ((show (Tryd.prog.globals[0]?).map (·.type) = some 86 by kernel_rfl).symm.trans ht')
  rw [bnd_laid] at hd
  have hcs := cells_of_strs (n := 6) (e := 9) (by kernel_rfl) (by kernel_rfl) (by kernel_rfl) (by kernel_rfl) hd
  unfold World.var? at hvar
  rw [show Tryd.prog.globalNamed "arlink/mapfile.bindings" = some 0 by kernel_rfl] at hvar
  simp only [Option.bind_some] at hvar
  split at hvar
  · rename_i xs tt fr hh
    cases hvar
    exact ⟨_, tt, fr, hh, by rw [← hcs]⟩
  · cases hvar
/-- A laid interface. -/
theorem iface_of_laid {P : Program} {W : World} {g : Nat} {t : TypeId} {name nm : String} {d : DataW Unit} {ms : _} (hg : P.globalNamed name = some g) (hty : (P.globals[g]?).map (·.type) = some t) (hu : P.underlying t = some (.interface ms)) :
    ∀ (laid : List (String × DataW Unit)) (ps : List MemPlace), DataW.LaidVars P W laid ps → (name, .iface nm d) ∈ laid → ∃ u v, (∃ tt fr, W.heap[g]? = some (.cells #[.iface u v] tt fr)) ∧ P.typeName? 3 u = some nm
  | [], _, _, hm => by cases hm
  | (name', d') :: rest, ps, h, hm => by
    obtain ⟨g', t', cs, fuel, p, q, hg', ht', hvar, hd, hrest, _⟩ := h
    rcases List.mem_cons.1 hm with e | hm
    · obtain ⟨rfl, rfl⟩ := Prod.mk.inj e
      obtain rfl := Option.some.inj (hg.symm.trans hg')
      obtain rfl := Option.some.inj (hty.symm.trans ht')
      cases fuel with
      | zero => simp [DataW.trod] at hd
      | succ fuel =>
        unfold DataW.trod at hd
        rw [hu] at hd
        have hcs : ∃ u v, cs = #[.iface u v] ∧ P.typeName? 3 u = some nm := by
          obtain ⟨l⟩ := cs
          match l, hd with
          | [], hd => simp at hd
          | [.iface u v], hd =>
            simp only at hd
            split at hd
            · cases ‹false = true›
            · rename_i nm' hn
              rw [Option.map_eq_some_iff] at hd
              obtain ⟨x, _, hx⟩ := hd
              simp at hx
              exact ⟨u, v, rfl, by rw [hn, hx.1.1]⟩
            · cases hd
          | [.nilIface], hd => simp at hd
          | _ :: _ :: _, hd => simp at hd
        obtain ⟨u, v, rfl, hn⟩ := hcs
        refine ⟨u, v, ?_, hn⟩
        unfold World.var? at hvar
        rw [hg] at hvar
        simp only [Option.bind_some] at hvar
        split at hvar
        · rename_i xs tt fr hh
          cases hvar
          exact ⟨_, _, hh⟩
        · cases hvar
    · exact iface_of_laid hg hty hu rest q hrest hm
theorem errT (u : TypeId) (h : Tryd.prog.typeName? 3 u = some "*errors.errorString") : u = 142 :=
  typeName_ptr_named (nm := "errors.errorString") (tp := 142) (by kernel_rfl) (by kernel_rfl) (by decide) u h
theorem gr_of {W : World} {g : Nat} {xs : Array Value} {tt : TypeId} {fr : Nat × Nat} {cs : List AV} (hh : W.heap[g]? = some (.cells xs tt fr))
    (hl : xs.size = cs.length := by simp) (hc : ∀ (j : Nat) (x : AV), cs[j]? = some x → ∃ v, xs[j]? = some v ∧ v.oneCell' = true ∧ VR (Γ0 W.heap.size) W x v) : GR (Γ0 W.heap.size) W cs g := by
  refine ⟨.pp _ _ 0 (fun j => (xs[j]?).getD .nilIface) (Array.getElem?_eq_some_iff.1 hh).1 (fun j x hj => ⟨?_, Ctx.fixd_of (Γ0_owns _ _)⟩) (fun j x hj => ?_) fun j x hj => ?_, Γ0_owns _ _, _, tt, fr, hh, hl⟩
  · obtain ⟨v, hv, _⟩ := hc j x hj
    simp [World.cell?, hh, hv]
  · obtain ⟨v, hv, h1, _⟩ := hc j x hj
    simp [hv]; exact h1
  · obtain ⟨v, hv, _, hr⟩ := hc j x hj
    simp [hv]; exact hr
theorem err_glob {W : World} (h : laidMetH Tryd.prog laid0 W) {g : Nat} {name : String} {d : DataW Unit} {ms : _} (hg : Tryd.prog.globalNamed name = some g) (hty : (Tryd.prog.globals[g]?).map (·.type) = some 81)
    (hu : Tryd.prog.underlying 81 = some (.interface ms)) (hm : (name, DataW.iface "*errors.errorString" d) ∈ laid0) : GR (Γ0 W.heap.size) W [.ifc 142 .junk] g := by
  obtain ⟨ps, hv, _⟩ : laidMet Tryd.prog laid0 W := h
  obtain ⟨u, v, ⟨tt, fr, hh⟩, hn⟩ := iface_of_laid hg hty hu laid0 ps hv hm
  obtain rfl := errT u hn
  refine gr_of (cs := [.ifc 142 .junk]) hh rfl ?_
  intro j x hj
  cases j with
  | zero => simp at hj; subst hj; exact ⟨_, rfl, rfl, .ifc _ _ _ (.junk _)⟩
  | succ j => simp at hj
theorem err_u : ∃ ms, Tryd.prog.underlying 81 = some (.interface ms) := by
  have h : (match Tryd.prog.underlying 81 with | some (.interface _) => true | _ => false) = true := by kernel_rfl
  split at h
  · rename_i ms hu; exact ⟨ms, hu⟩
  · cases h
theorem globs {W : World} (h : laidMetH Tryd.prog laid0 W) : ∀ g cs, E.G g = some cs → GR (Γ0 W.heap.size) W cs g ∧ ∀ m, Bel m (.pp cs) := by
  obtain ⟨ms, hu⟩ := err_u
  intro g cs hg
  by_cases h0 : g = 4
  · subst h0
    rw [E_tab] at hg
    cases hg
    refine ⟨?_, fun m => .pp _ (by simp)⟩
    have ht := tab_is h
    unfold Lib.TabIs World.var? at ht
    rw [show Tryd.prog.globalNamed "internal/strconv.uint64pow10" = some 4 by kernel_rfl] at ht
    simp only [Option.bind_some] at ht
    split at ht
    · rename_i xs tt fr hh
      have hx : xs = (Lib.pow10Tab.map fun z => Value.int .u64 z).toArray := Option.some.inj ht
      have hlt := (Array.getElem?_eq_some_iff.1 hh).1
      refine ⟨.pp _ _ 0 (fun j => .int .u64 (Lib.pow10Tab.getD j 0)) hlt (fun j x hj => ⟨?_, Ctx.fixd_of (Γ0_owns _ _)⟩) (fun _ _ _ => rfl) fun j x hj => ?_, Γ0_owns _ _, xs, tt, fr, hh, by rw [hx]; simp⟩
      · rw [List.getElem?_map, Option.map_eq_some_iff] at hj
        obtain ⟨z, hz, rfl⟩ := hj
        simp only [World.cell?, hh, Nat.zero_add, hx]
        simp [hz, List.getD]
      · rw [List.getElem?_map, Option.map_eq_some_iff] at hj
        obtain ⟨z, hz, rfl⟩ := hj
        have : Lib.pow10Tab.getD j 0 = z := by simp [List.getD, hz]
        rw [this]
        exact .c _ rfl
    · cases ht
  by_cases h1 : g = 0
  · subst h1
    rw [E_bnd] at hg
    cases hg
    obtain ⟨xs, tt, fr, hh, hx⟩ := bnd_is h
    refine ⟨gr_of hh (by rw [hx]; simp) fun j x hj => ?_, fun m => .pp _ (by simp)⟩
    rw [List.getElem?_map, Option.map_eq_some_iff] at hj
    obtain ⟨w, hw, rfl⟩ := hj
    exact ⟨Value.string (bs w), by rw [hx]; simp [hw], rfl, .c _ rfl⟩
  by_cases h2 : g = 5
  · subst h2
    have hg' : cs = [.ifc 142 .junk] := by
      have : E.G 5 = some [.ifc 142 .junk] := rfl
      rw [this] at hg; exact (Option.some.inj hg).symm
    subst hg'
    exact ⟨err_glob (name := "strconv.ErrSyntax") h (by kernel_rfl) (by kernel_rfl) hu (by simp [laid0, Rows.laid_strconv_ErrSyntax]; rfl), fun m => .pp _ (by simp)⟩
  by_cases h3 : g = 6
  · subst h3
    have hg' : cs = [.ifc 142 .junk] := by
      have : E.G 6 = some [.ifc 142 .junk] := rfl
      rw [this] at hg; exact (Option.some.inj hg).symm
    subst hg'
    exact ⟨err_glob (name := "strconv.ErrRange") h (by kernel_rfl) (by kernel_rfl) hu (by simp [laid0, Rows.laid_strconv_ErrRange]; rfl), fun m => .pp _ (by simp)⟩
  · have hg : gv g = some cs := hg
    simp [gv, h0, h1, h2, h3] at hg

/-- The parts of a struct, by their types. -/
def RdT (r : TypeId → AV → Prop) : List TypeId → List AV → Prop
  | [], cs => cs = []
  | t :: ts, cs => ∃ a cs', cs = a.cells ++ cs' ∧ r t a ∧ RdT r ts cs'
theorem rdT {r : TypeId → AV → Prop} : ∀ {fs : List Field} {cs : List AV}, RdParts r fs cs → RdT r (fs.map (·.type)) cs
  | [], _, h => h
  | f :: fs, _, ⟨a, cs', e, h, h'⟩ => ⟨a, cs', e, h, rdT h'⟩
theorem rd_struct {P : Program} {n : Nat} {t : TypeId} {a : AV} (hu : P.underlying t = some (.struct (fieldsOf P t))) (h : Rd P (n + 1) t a) : ∃ cs, a = .agg cs ∧ RdT (Rd P n) ((fieldsOf P t).toList.map (·.type)) cs := by
  rw [Rd, hu] at h
  obtain ⟨cs, e, h⟩ := h
  exact ⟨cs, e, rdT h⟩
theorem u3 : Tryd.prog.underlying 3 = some (.int .i64) := by kernel_rfl
theorem u9 : Tryd.prog.underlying 9 = some .string := by kernel_rfl
theorem uU : Tryd.prog.underlying 23 = some (.slice 74) := by kernel_rfl
theorem uS : Tryd.prog.underlying 24 = some (.slice 68) := by kernel_rfl
theorem uT : Tryd.prog.underlying 31 = some (.slice 71) := by kernel_rfl
theorem rd_str {n : Nat} {a : AV} (h : Rd Tryd.prog (n + 1) 9 a) : ∃ w : W, a = str w := by
  rw [Rd, u9] at h
  obtain ⟨s, rfl, _⟩ := h
  exact ⟨s.data.toList, rfl⟩
theorem rd_int {n : Nat} {a : AV} (h : Rd Tryd.prog (n + 1) 3 a) : ∃ z : Int, a = intV z := by
  rw [Rd, u3] at h
  obtain ⟨z, rfl, _, h2⟩ := h
  exact ⟨z, rfl⟩
theorem rd_u {n : Nat} {a : AV} (h : Rd Tryd.prog (n + 3) 74 a) : ∃ u : U, a = uV u := by
  obtain ⟨cs, e, h'⟩ := rd_struct (by kernel_rfl) h
  subst e
  clear h
  rw [show (fieldsOf Tryd.prog 74).toList.map (·.type) = [9, 9, 3] by kernel_rfl] at h'
  obtain ⟨_, _, rfl, h1, _, _, rfl, h2, _, _, rfl, h3, rfl⟩ := h'
  obtain ⟨f, rfl⟩ := rd_str h1
  obtain ⟨m, rfl⟩ := rd_str h2
  obtain ⟨i, rfl⟩ := rd_int h3
  exact ⟨⟨f, m, i⟩, by simp [AV.cells, uV]⟩
theorem rd_s {n : Nat} {a : AV} (h : Rd Tryd.prog (n + 3) 68 a) : ∃ u : Sy, a = syV u := by
  obtain ⟨cs, e, h'⟩ := rd_struct (by kernel_rfl) h
  subst e
  clear h
  rw [show (fieldsOf Tryd.prog 68).toList.map (·.type) = [9, 3, 3, 3, 3] by kernel_rfl] at h'
  obtain ⟨_, _, rfl, h1, _, _, rfl, h2, _, _, rfl, h3, _, _, rfl, h4, _, _, rfl, h5, rfl⟩ := h'
  obtain ⟨f, rfl⟩ := rd_str h1
  obtain ⟨b, rfl⟩ := rd_int h2
  obtain ⟨z, rfl⟩ := rd_int h3
  obtain ⟨x, rfl⟩ := rd_int h4
  obtain ⟨y, rfl⟩ := rd_int h5
  exact ⟨⟨f, b, z, x, y⟩, by simp [AV.cells, syV]⟩
theorem rd_t {n : Nat} {a : AV} (h : Rd Tryd.prog (n + 3) 71 a) : ∃ u : Sl, a = slV u := by
  obtain ⟨cs, e, h'⟩ := rd_struct (by kernel_rfl) h
  subst e
  clear h
  rw [show (fieldsOf Tryd.prog 71).toList.map (·.type) = [9, 3, 3] by kernel_rfl] at h'
  obtain ⟨_, _, rfl, h1, _, _, rfl, h2, _, _, rfl, h3, rfl⟩ := h'
  obtain ⟨f, rfl⟩ := rd_str h1
  obtain ⟨o, rfl⟩ := rd_int h2
  obtain ⟨z, rfl⟩ := rd_int h3
  exact ⟨⟨f, o, z⟩, by simp [AV.cells, slV]⟩
theorem rd_us {n : Nat} {a : AV} (h : Rd Tryd.prog (n + 4) 23 a) : ∃ l : List U, a = .ps (l.map uV) := by
  rw [Rd, uU] at h
  obtain ⟨es, rfl, hl, hes⟩ := h
  obtain ⟨l, rfl, _⟩ := list_of (f := uV) (p := fun _ => True) (es := es) fun x hx => by
    obtain ⟨m, e⟩ := rd_u (hes x hx)
    exact ⟨m, e, trivial⟩
  exact ⟨l, rfl⟩
theorem rd_ss {n : Nat} {a : AV} (h : Rd Tryd.prog (n + 4) 24 a) : ∃ l : List Sy, a = .ps (l.map syV) := by
  rw [Rd, uS] at h
  obtain ⟨es, rfl, hl, hes⟩ := h
  obtain ⟨l, rfl, _⟩ := list_of (f := syV) (p := fun _ => True) (es := es) fun x hx => by
    obtain ⟨m, e⟩ := rd_s (hes x hx)
    exact ⟨m, e, trivial⟩
  exact ⟨l, rfl⟩
theorem rd_ts {n : Nat} {a : AV} (h : Rd Tryd.prog (n + 4) 31 a) : ∃ l : List Sl, a = .ps (l.map slV) := by
  rw [Rd, uT] at h
  obtain ⟨es, rfl, hl, hes⟩ := h
  obtain ⟨l, rfl, _⟩ := list_of (f := slV) (p := fun _ => True) (es := es) fun x hx => by
    obtain ⟨m, e⟩ := rd_t (hes x hx)
    exact ⟨m, e, trivial⟩
  exact ⟨l, rfl⟩
theorem rd_map {n : Nat} {a : AV} (h : Rd Tryd.prog (n + 5) 33 a) : ∃ m : Mp, a = mpV m := by
  obtain ⟨cs, e, h'⟩ := rd_struct (by kernel_rfl) h
  subst e
  clear h
  rw [show (fieldsOf Tryd.prog 33).toList.map (·.type) = [23, 24, 31] by kernel_rfl] at h'
  obtain ⟨_, _, rfl, h1, _, _, rfl, h2, _, _, rfl, h3, rfl⟩ := h'
  obtain ⟨f, rfl⟩ := rd_us h1
  obtain ⟨o, rfl⟩ := rd_ss h2
  obtain ⟨z, rfl⟩ := rd_ts h3
  exact ⟨⟨f, o, z⟩, by simp [AV.cells, mpV]⟩
noncomputable def wit (os : Os) : World := World.laidAll Tryd.prog os laid0
theorem door_met (os : Os) (args : Array Value) : laidMetH Tryd.prog laid0 ((wit os).forCall (fun _ _ => 0) ⟨#[], args, []⟩).memory := by
  have h : laidMet Tryd.prog laid0 ((wit os).forCall (fun _ _ => 0) ⟨#[], args, []⟩).memory := laidMet_laidAll args (by kernel_rfl) (by kernel_rfl)
  exact h
end Go.Proofs.YtebjdgcnnonjoaaDoor
