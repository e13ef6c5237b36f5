/- Merged texts, in order: The library's functions that are reached. No condition. | The library's Builder. No condition. | The library's Builder, as the walks want it. No condition. | Escaped forms. No condition. -/
import Derived.Test.YtebjdgcnnonjoaaDoorAwT
import Derived.Test.YtebjdgcnnonjoaaDoorGD
import Derived.Test.YtebjdgcnnonjoaaDoorM2
import Derived.Test.YtebjdgcnnonjoaaDoorLib
import Derived.Shelf.Strings.Builder1
section
set_option linter.unusedVariables false
set_option linter.unusedSimpArgs false
set_option linter.unnecessarySimpa false
namespace Go.Proofs.YtebjdgcnnonjoaaDoor
open Go Go.AW
set_option maxRecDepth 100000
set_option maxHeartbeats 8000000

/-- What is known of the program's variables. -/
def gv (g : Nat) : Option (List AV) :=
  if g = 4 then some (Lib.pow10Tab.map fun z => .c (.int .u64 z))
  else if g = 0 then some (bnames.map str)
  else if g = 5 then some [.ifc 142 .junk]
  else if g = 6 then some [.ifc 142 .junk]
  else none
noncomputable def E : Env := ⟨Tryd.prog, gv, fun _ _ => False⟩
@[simp] theorem E_P : E.P = Tryd.prog := rfl
theorem hmE : E.P.follows .mixedOrders = true := by kernel_rfl
@[simp] theorem E_bnd : E.G 0 = some (bnames.map str) := rfl
abbrev intV (n : Int) : AV := .c (.int .i64 n)
abbrev boolV (b : Bool) : AV := .c (.bool b)
def strs (l : List W) : AV := .ps (l.map str)
def bytes (l : W) : AV := .ps (l.map byteV)
attribute [simp] strs bytes
theorem dec_tx (n : Nat) : Lib.decDigits n = tx 10 n := by
  induction n using Nat.strongRecOn with
  | _ n ih =>
    rw [Lib.decDigits, tx]
    by_cases h : n < 10
    · rw [dif_pos h, dif_pos (.inl h), Nat.mod_eq_of_lt h]; rfl
    · rw [dif_neg h, dif_neg (by omega), ih _ (by omega)]; rfl
theorem E_tab : E.G 4 = some (Lib.pow10Tab.map fun z => .c (.int .u64 z)) := rfl
theorem grown_grow (w : World) (k : Nat) (os : Array Obj) : w.grownBy (Go.Sort.grow (w.drewN k) os) none := by
  refine ⟨rfl, rfl, rfl, ?_, fun i hi _ => ?_⟩
  · show w.heap.size ≤ (w.heap ++ os).size
    simp
  · show (w.heap ++ os)[i]? = _
    rw [Array.getElem?_append_left hi]
theorem Itoa_p (n : Nat) (hn : n ≤ 9223372036854775807) : Pur E 51 [intV n] (str (tx 10 n)) := by
  refine Pur.lib (E := E) [.int .i64 n] rfl fun Γ σ w hr => (Go.Proofs.Tryd.strconv_Itoa n (by omega) (by omega) w (hr.tab (by kernel_rfl) E_tab)).mono ?_
  rintro e w' ⟨rfl, k, os, rfl⟩
  refine ⟨?_, ?_⟩
  · rw [Lib.itoa, if_neg (by omega), Int.toNat_natCast, dec_tx]; rfl
  · exact grown_grow w k os
theorem IndexByte_p (s : W) (c : UInt8) : Pur E 28 [str s, .c (.int .u8 c.toNat)] (intV (Lib.indexByte s c)) := by
  refine Pur.lib (E := E) [.string (bs s), .int .u8 c.toNat] rfl fun Γ σ w hr => (Go.Proofs.Tryd.strings_IndexByte (bs s) c.toNat w).mono ?_
  rintro e w' ⟨rfl, rfl⟩
  refine ⟨?_, grown_refl _⟩
  simp
theorem Index_p (s : W) (c : UInt8) : Pur E 61 [str s, str [c]] (intV (Lib.indexByte s c)) := by
  refine Pur.lib (E := E) [.string (bs s), .string (bs [c])] rfl fun Γ σ w hr => (Go.Proofs.Tryd.strings_Index_one (bs s) c w).mono ?_
  rintro e w' ⟨rfl, rfl⟩
  exact ⟨rfl, grown_refl _⟩
theorem Count_p (s : W) (c : UInt8) : Pur E 60 [str s, str [c]] (intV (s.count c)) := by
  refine Pur.lib (E := E) [.string (bs s), .string (bs [c])] rfl fun Γ σ w hr => (Go.Proofs.Tryd.strings_Count_one (bs s) c w).mono ?_
  rintro e w' ⟨rfl, rfl⟩
  exact ⟨rfl, grown_refl _⟩
/-- A library's contract with an answer of any shape. -/
theorem Pur.libR {E : Env} {k : FuncId} {r : AV} (cs : List Value) (h : ∀ Γ σ w, R E Γ σ w → Calls E.P k cs.toArray w fun e w' => ∃ v, e = .returned v ∧ w.grownBy w' none ∧ VR Γ w' r v) : Pur E k (cs.map AV.c) r := by
  intro σ Γ w vs hr hvs
  have hvs := vrs_c hvs
  have : vs = cs.toArray := by rw [← hvs]
  subst this
  refine (h Γ σ w hr).mono ?_
  rintro e w' ⟨v, rfl, hg, hv⟩
  obtain ⟨h1, h2⟩ := hr.same_ctx hg
  exact .inl ⟨v, rfl, Γ, r, σ, h1, h2, hv, rfl, rfl⟩
theorem vr_pair (Γ : Ctx) (w : World) {a b : AV} {u v : Value} (h1 : VR Γ w a u) (h2 : VR Γ w b v) : VR Γ w (.tup [a, b]) (.tuple #[u, v]) := by
  refine .tup _ _ rfl ?_
  intro j a x ha hx
  match j, ha, hx with
  | 0, ha, hx => simp at ha hx; subst ha; subst hx; exact h1
  | 1, ha, hx => simp at ha hx; subst ha; subst hx; exact h2
/-- The text before a suffix of one byte. -/
def cutL (s : W) (c : UInt8) : W := if s.getLast? = some c then s.dropLast else s
theorem suffix_one (s : W) (c : UInt8) : Lib.hasSuffix s [c] = decide (s.getLast? = some c) := by
  rw [Bool.eq_iff_iff]
  simp only [Lib.hasSuffix, List.isSuffixOf_iff_suffix, decide_eq_true_eq]
  constructor
  · rintro ⟨t, rfl⟩; simp
  · intro h
    obtain ⟨ys, rfl⟩ := List.getLast?_eq_some_iff.1 h
    exact ⟨ys, rfl⟩
theorem CutSuffix_p (s : W) (c : UInt8) (hs : s.length ≤ 1000000000) : Pur E 24 [str s, str [c]] (.tup [str (cutL s c), boolV (decide (s.getLast? = some c))]) := by
  refine Pur.libR (E := E) [.string (bs s), .string (bs [c])] fun Γ σ w hr => (Go.Proofs.Tryd.strings_CutSuffix (bs s) (bs [c]) w (by simp; omega)).mono ?_
  rintro e w' ⟨rfl, rfl⟩
  refine ⟨_, rfl, grown_refl _, vr_pair _ _ ?_ ?_⟩
  · have : (⟨(Lib.trimSuffix (bs s).data.toList (bs [c]).data.toList).toArray⟩ : ByteArray) = bs (cutL s c) := by
      show (⟨(Lib.trimSuffix s [c]).toArray⟩ : ByteArray) = ⟨(cutL s c).toArray⟩
      rw [Lib.trimSuffix, suffix_one, cutL]
      by_cases h : s.getLast? = some c
      · simp [h, List.dropLast_eq_take]
      · simp [h]
    rw [this]
    exact .c _ rfl
  · have : Lib.hasSuffix (bs s).data.toList (bs [c]).data.toList = decide (s.getLast? = some c) := suffix_one s c
    rw [this]
    exact .c _ rfl
/-- What Atoi answers. -/
def atV (s : W) : Int × Bool := match Lib.atoiAll s with
  | .ok v => (v, true)
  | .range => (Lib.atoiSat s, false)
  | _ => (0, false)
def errV (b : Bool) : AV := if b then .c .nilIface else .ifc 121 .junk
theorem grown_bytes (w : World) (e : TypeId) (t : ByteArray) : w.grownBy (Lib.bytesWorld w e t) none := by
  have h : Go.RowKit.Below w.heap.size w (Lib.bytesWorld w e t) := by
    unfold Lib.bytesWorld
    exact Lib.below_freeze ((Go.RowKit.Below.drew (Go.RowKit.Below.refl w.heap.size w)).alloc (Nat.le_refl _) _) (p := ⟨w.heap.size, _, none⟩) (Nat.le_refl _) 1
  exact grown_of_below h
theorem err_cell {Γ : Ctx} {σ : Store} {w : World} (hr : R E Γ σ w) {g t : Nat} (hg : E.G g = some [.ifc t .junk]) : ∃ ev, w.cell? ⟨g, 0, none⟩ = some ev ∧ (ev = .nilIface ∨ ∃ te pe, ev = .iface te pe) := by
  obtain ⟨h1, _, _⟩ := hr.glob g _ hg
  cases h1 with
  | pp cs b o us hb hw h1 h =>
    have e := (hw 0 _ rfl).1
    have hv := h 0 _ rfl
    generalize us 0 = u at hv e
    cases hv with
    | ifc _ _ v _ => exact ⟨_, by simpa using e, .inr ⟨_, _, rfl⟩⟩
theorem Atoi_p (s : W) (hs : s.length ≤ 1000000000) : Pur E 69 [str s] (.tup [intV (atV s).1, errV (atV s).2]) := by
  refine Pur.libR (E := E) [.string (bs s)] fun Γ σ w hr => ?_
  unfold atV
  cases ha : Lib.atoiAll s with
  | ok v =>
    refine (Go.Proofs.Tryd.strconv_Atoi_ok (bs s) (by simp; omega) v ha w).mono ?_
    rintro e w' ⟨rfl, hw⟩
    refine ⟨_, rfl, ?_, vr_pair _ _ (.c _ rfl) (.c _ rfl)⟩
    rcases hw with rfl | ⟨t, rfl⟩
    · exact grown_refl _
    · exact grown_bytes _ _ _
  | range =>
    obtain ⟨ev, h1, h2⟩ := err_cell hr (g := 6) rfl
    refine (Go.Proofs.Tryd.strconv_Atoi_range (bs s) (by simp; omega) ha ev w h1 h2).mono ?_
    rintro e w' ⟨N, rfl, _, _, hb⟩
    exact ⟨_, rfl, grown_of_below hb, vr_pair _ _ (.c _ rfl) (.ifc _ _ _ (.junk _))⟩
  | _ =>
    obtain ⟨ev, h1, h2⟩ := err_cell hr (g := 5) rfl
    refine (Go.Proofs.Tryd.strconv_Atoi_syntax (bs s) (by simp; omega) ha ev w h1 h2).mono ?_
    rintro e w' ⟨N, rfl, _, _, hb⟩
    exact ⟨_, rfl, grown_of_below hb, vr_pair _ _ (.c _ rfl) (.ifc _ _ _ (.junk _))⟩
theorem join_jn (c : UInt8) : ∀ ws : List W, Lib.join ws [c] = jn c ws
  | [] => rfl
  | [x] => Lib.join_one _ _
  | x :: y :: l => by
    have ih := join_jn c (y :: l)
    rw [Lib.join_cons] at ih
    rw [Lib.join_cons, jn_cons c x (by simp), ← ih]
    simp [Lib.joinTail]
theorem Join_p (ws : List W) (c : UInt8) (hne : ws ≠ []) (hl : ws.length ≤ 1000) (hj : (jn c ws).length ≤ 1000000000) : Pur E 37 [strs ws, str [c]] (str (jn c ws)) := by
  intro σ Γ w vs hr hvs
  obtain ⟨v1, v2, hvv⟩ : ∃ v1 v2, vs = #[v1, v2] := by
    have := hvs.1
    simp at this
    obtain ⟨l, hl⟩ : ∃ l, vs.toList = l := ⟨_, rfl⟩
    match l, hl with
    | [a, b], hl => exact ⟨a, b, by rw [← Array.toArray_toList (xs := vs), hl]⟩
    | [], hl => rw [hl] at hvs; simp [VRs] at hvs
    | [a], hl => rw [hl] at hvs; simp [VRs] at hvs
    | a :: b :: c :: l, hl => rw [hl] at hvs; simp [VRs] at hvs
  subst hvv
  have h1 := hvs.2 0 _ v1 rfl rfl
  have h2 := hvs.2 1 _ v2 rfl rfl
  cases h2
  have h1 : VR Γ w (.ps (ws.map str)) v1 := h1
  cases h1 with
  | ps es a cap b o us hc ha hw h1 h =>
    obtain ⟨rfl, hb⟩ := ha (by simpa using hne)
    have hlen : (ws.map str).length = (ws.map bs).length := by simp
    rw [hlen]
    have hmap : (ws.map bs).map (·.data.toList) = ws := by simp [List.map_map, Function.comp_def]
    refine (Go.Proofs.Tryd.strings_Join b o cap (ws.map bs) (bs [c]) w ?_ hb (by simp; omega) (by simpa using hc) ?_).mono ?_
    · intro j x hx
      rw [List.getElem?_map, Option.map_eq_some_iff] at hx
      obtain ⟨y, hy, rfl⟩ := hx
      have hj' : (ws.map str)[j]? = some (str y) := by rw [List.getElem?_map, hy]; rfl
      have e := (hw j _ 0 _ hj' rfl).1
      have hv := h j _ 0 _ hj' rfl
      generalize hu : us j 0 = u at hv e
      cases hv
      simpa [AV.cells] using e
    · rw [hmap]
      show (Lib.join ws [c]).length ≤ _
      rw [join_jn]; omega
    · rintro e w' ⟨rfl, hbl⟩
      obtain ⟨q1, q2⟩ := hr.same_ctx (grown_of_below hbl)
      refine .inl ⟨_, rfl, Γ, str (jn c ws), σ, q1, q2, ?_, rfl, rfl⟩
      rw [hmap]
      have : (Lib.join ws (bs [c]).data.toList) = jn c ws := join_jn c ws
      rw [this]
      exact .c _ rfl
end Go.Proofs.YtebjdgcnnonjoaaDoor
end

section
set_option linter.unusedVariables false
set_option linter.unusedSimpArgs false
set_option linter.unnecessarySimpa false
namespace Go.Proofs.YtebjdgcnnonjoaaDoor
open Go Go.AW
set_option maxRecDepth 100000
set_option maxHeartbeats 8000000

theorem lies_k (k : Nat) (hk : 1 ≤ k) : liesAt Tryd.prog Tryd.prog.depth 79 k 0 79 1 = true := by
  obtain ⟨d, hd⟩ : ∃ d, Tryd.prog.depth = d + 1 := ⟨Tryd.prog.depth - 1, by kernel_rfl⟩
  have hs : sameLayout Tryd.prog Tryd.prog.depth 79 79 = true := by kernel_rfl
  have hc : Tryd.prog.cellsOf 79 = 2 := by kernel_rfl
  have key : ∀ n, n = Tryd.prog.depth → liesAt Tryd.prog n 79 k 0 79 1 = true := by
    intro n hn
    rw [hd] at hn
    subst hn
    rw [liesAt]
    have : rowAt Tryd.prog (sameLayout Tryd.prog Tryd.prog.depth · 79) Tryd.prog.depth 79 k 0 1 = true := by
      have key2 : ∀ n, n = Tryd.prog.depth → rowAt Tryd.prog (sameLayout Tryd.prog Tryd.prog.depth · 79) n 79 k 0 1 = true := by
        intro n hn
        rw [hd] at hn
        subst hn
        rw [rowAt]
        simp [hc, hs, hk]
      exact key2 _ rfl
    rw [this]
    rfl
  exact key _ rfl
theorem info_b : ∃ j, Tryd.prog.info? 79 = some j ∧ j.size = 2 := by
  obtain ⟨j, hj, hjs⟩ := Option.map_eq_some_iff.1 (show (Tryd.prog.info? 79).map (·.size) = some 2 by kernel_rfl)
  exact ⟨j, hj, hjs⟩
theorem cc_fresh (b k : Nat) (w : World) (hk : 1 ≤ k) (h0 : w.cell? ⟨b, 0, none⟩ = some (.pointer none)) (hsh : w.shape? b = some (79, k * 2)) (hfz : w.frozen? ⟨b, 0, none⟩ = false) :
    Calls Tryd.prog 49 #[.pointer (some ⟨b, 0, none⟩)] w fun e w' => e = .returned (.tuple #[]) ∧ w' = w.setCell ⟨b, 0, none⟩ (.pointer (some ⟨b, 0, none⟩)) := by
  obtain ⟨j, hj, hjs⟩ := info_b
  have mixed := Tryd.lays156.mixed
  have t72 := Tryd.underlying79; have a72 := Tryd.isAgg79; have z72 := Tryd.sizeOf79; have v72 := Tryd.zeroValue79; have u72 := run_underlying t72
  have t70 := Tryd.underlying77; have a70 := Tryd.isAgg77; have z70 := Tryd.sizeOf77; have v70 := Tryd.zeroValue77; have u70 := run_underlying t70
  have t164 := Tryd.underlying102; have a164 := Tryd.isAgg102; have z164 := Tryd.sizeOf102; have v164 := Tryd.zeroValue102; have u164 := run_underlying t164
  go_enter Tryd.func49, Tryd.ntmps49
  go_wp2
  rw [Lib.run_to_unsafe w ⟨b, 0, none⟩ t70 t164 hj (by rw [hjs]; decide) hsh (by show 0 < k * 2; omega)]
  simp only [Result.andThen]
  rw [Oper.upon_value]
  go_wp2
  rw [run_callFunc_extern Tryd.func64 (by kernel_rfl) (by kernel_rfl) (by kernel_rfl) (e := Extern.AbiNoEscape.same) (by kernel_rfl)]
  rw [Lib.run_noEscape]
  simp only [Result.andThen]
  rw [Oper.upon_value]
  go_wp2
  rw [Lib.run_from_unsafe w ⟨b, 0, none⟩ t164 t70 hj hsh (by
    have hc : Tryd.prog.cellsOf 79 = 2 := by kernel_rfl
    rw [hc, Nat.mul_div_cancel _ (by decide)]
    exact lies_k k hk)]
  simp only [Result.andThen]
  rw [Oper.upon_value]
  go_wp2
  go_end0
  exact ⟨rfl, rfl⟩
theorem cc_used (b : Nat) (w : World) (h0 : w.cell? ⟨b, 0, none⟩ = some (.pointer (some ⟨b, 0, none⟩))) :
    Calls Tryd.prog 49 #[.pointer (some ⟨b, 0, none⟩)] w fun e w' => e = .returned (.tuple #[]) ∧ w' = w :=
  Any.Builder_copyCheck_used (P := Tryd.prog) (ρ := Tryd.lays156_ren) { Tryd.lays156 with } Tryd.Builder_Extra_156.toX72 b w h0
theorem string_exact (b g cap n : Nat) (l : List UInt8) (w : World) (h0 : l ≠ []) (hc1 : w.cell? ⟨b, 1, none⟩ = some (.slice (some ⟨g, 0, none⟩) l.length cap)) (hcap : cap ≠ 0) (hsh : w.shape? g = some (5, n)) (hn : l.length ≤ n) (hl : l.length ≤ 9223372036854775807)
    (hcell : ∀ j x, l[j]? = some x → w.cell? ⟨g, j, none⟩ = some (.int .u8 x.toNat)) :
    Calls Tryd.prog 39 #[.pointer (some ⟨b, 0, none⟩)] w fun e w' => e = .returned (.string ⟨l.toArray⟩) ∧ w' = w.drew.freeze ⟨g, 0, none⟩ l.length := by
  have L := Tryd.lays169
  have X := Tryd.Builder_Extra_169
  have c1 : w.drew.cell? ⟨b, 1, none⟩ = some (.slice (some ⟨g, 0, none⟩) l.length cap) := hc1
  have hSD : (Builtin.unsafeSliceData_ #[62] 91 #[.slice (some ⟨g, 0, none⟩) l.length cap]).run Tryd.prog w.drew = .ok (.pointer (some ⟨g, 0, none⟩)) w.drew :=
    Lib.run_unsafeSliceData_row _ _ _ _ _ _ hcap
  have hUS : (Builtin.unsafeString_ #[91, 3] 9 #[.pointer (some ⟨g, 0, none⟩), .int .i64 l.length]).run Tryd.prog w.drew = .ok (.string ⟨l.toArray⟩) (w.drew.freeze ⟨g, 0, none⟩ l.length) := by
    refine Lib.run_unsafeString_row w.drew 91 3 9 5 Tryd.underlying91 X.cellsByte g n hsh l h0 hn hl ?_
    intro j x hx
    have e : (⟨g, 0, none⟩ : Addr).add j = ⟨g, j, none⟩ := by
      by_cases hj : j = 0
      · subst hj; rfl
      · simp [Addr.add, hj]
    rw [e]
    exact hcell j x hx
  have mixed := L.mixed
  have t72 := Tryd.underlying79; have a72 := Tryd.isAgg79; have z72 := Tryd.sizeOf79; have v72 := Tryd.zeroValue79; have u72 := run_underlying t72
  have t70 := Tryd.underlying77; have a70 := Tryd.isAgg77; have z70 := Tryd.sizeOf77; have v70 := Tryd.zeroValue77; have u70 := run_underlying t70
  have t37 := Tryd.underlying62; have a37 := Tryd.isAgg62; have z37 := Tryd.sizeOf62; have v37 := Tryd.zeroValue62; have u37 := run_underlying t37
  have t127 := Tryd.underlying91; have a127 := Tryd.isAgg91; have z127 := Tryd.sizeOf91; have v127 := Tryd.zeroValue91; have u127 := run_underlying t127
  have t3 := Tryd.underlying3; have a3 := Tryd.isAgg3; have z3 := Tryd.sizeOf3; have v3 := Tryd.zeroValue3; have u3 := run_underlying t3
  have t9 := Tryd.underlying9; have a9 := Tryd.isAgg9; have z9 := Tryd.sizeOf9; have v9 := Tryd.zeroValue9; have u9 := run_underlying t9
  have t5 := Tryd.underlying5; have a5 := Tryd.isAgg5; have z5 := Tryd.sizeOf5; have v5 := Tryd.zeroValue5; have u5 := run_underlying t5
  go_enter Tryd.func39, Tryd.ntmps39
  go_wp2
  go_region_o
  all_goals (go_wp2; go_ret; exact ⟨rfl, rfl⟩)
end Go.Proofs.YtebjdgcnnonjoaaDoor
end

section
set_option linter.unusedVariables false
set_option linter.unusedSimpArgs false
set_option linter.unnecessarySimpa false
namespace Go.Proofs.YtebjdgcnnonjoaaDoor
open Go Go.AW
set_option maxRecDepth 100000
set_option maxHeartbeats 8000000

theorem vrs_one {Γ : Ctx} {w : World} {a : AV} {vs : Array Value} (h : VRs Γ w [a] vs.toList) : ∃ v, vs = #[v] ∧ VR Γ w a v := by
  obtain ⟨l, hl⟩ : ∃ l, vs.toList = l := ⟨_, rfl⟩
  rw [hl] at h
  match l, hl with
  | [v], hl => exact ⟨v, by rw [← Array.toArray_toList (xs := vs), hl], h.2 0 a v rfl rfl⟩
  | [], hl => simp [VRs] at h
  | a :: b :: l, hl => simp [VRs] at h
theorem cc_c {p : Nat} {y : AV} {σ : Store} {x : AV} (hx : x = .c (.pointer none) ∨ x = .rp p 0 0 0) (hp : σ.get p = some (.arr 79 0 [.agg [x, y]])) :
    ACalls E 49 [.rp p 0 0 0] σ fun a s => a = .tup [] ∧ s = σ.set p (.arr 79 0 [.agg [.rp p 0 0 0, y]]) := by
  intro Γ w vs hr hvs
  obtain ⟨v, rfl, hv⟩ := vrs_one hvs
  obtain ⟨l, b, hl, hb, hgen, rfl, hc⟩ := hr.rp_cells hv hp (k := 0) rfl
  simp only [Nat.zero_mul, Nat.zero_add, List.drop_zero] at hc
  obtain ⟨l', hl', ho, hlt⟩ := hr.loc hp
  obtain rfl : l' = l := by rw [hl] at hl'; exact (Option.some.inj hl').symm
  simp only [ObjRel, hb] at ho
  obtain ⟨o1, o2, o3, o4, o5, xs, fr, q1, q2, q3, q4⟩ := ho
  have hsz : l'.sz = 2 := by rw [o2]; kernel_rfl
  have hfr : fr.1 = fr.2 := by rcases q2 with h | ⟨_, h⟩ <;> omega
  have hcap : 1 ≤ l'.cap := by simpa using o4
  have hsh : w.shape? b = some (79, l'.cap * 2) := by simp [World.shape?, q1, q3, hsz]
  have hfz : w.frozen? ⟨b, 0, none⟩ = false := by
    obtain ⟨f1, f2⟩ := fr
    simp only at hfr
    subst hfr
    simp [World.frozen?, q1]
  obtain ⟨u, u1, u2, u3⟩ := hc 0 x rfl
  simp only [Nat.add_zero] at u1
  have hv' : VR Γ w (.rp p 0 0 0) (.pointer (some ⟨b, 0, none⟩)) := by simpa using hv
  have e0 : (⟨b, 0 * l'.sz + 0, none⟩ : Addr) = ⟨b, 0, none⟩ := by simp
  rw [e0]
  rcases hx with rfl | rfl
  · cases u3
    refine (cc_fresh b l'.cap w hcap u1 hsh hfz).mono ?_
    rintro e w' ⟨rfl, rfl⟩
    have hst : (Instr.storeAt 77 (.pointer (some ⟨b, 0, none⟩)) (.pointer (some ⟨b, 0, none⟩))).run E.P w = .ok () (w.setCell ⟨b, 0, none⟩ (.pointer (some ⟨b, 0, none⟩))) := by
      have hs : (sizeOf 77).run E.P w = .ok 1 w := Tryd.sizeOf77 w
      have ha : (⟨b, 0, none⟩ : Addr).add 0 = ⟨b, 0, none⟩ := rfl
      simp [Instr.storeAt, Instr.sureAddr, storeVar, hs, storeCells, Value.cells, ha, run_store_pointer, stored, u1, hfz]
    have hU : Up E Γ w (fun a s => a = .tup [] ∧ s = σ.set p (.arr 79 0 [.agg [.rp p 0 0 0, y]])) ((do Instr.storeAt 77 (.pointer (some ⟨b, 0, none⟩)) (.pointer (some ⟨b, 0, none⟩)); pure .skip : Sem Next).run E.P w) :=
      aStore_ok hr hv' hv' (by simp [aStore, hp])
    simp only [Sem.run_bind, hst, Result.andThen_ok, Sem.run_pure, Up] at hU
    exact .inl ⟨_, rfl, hU⟩
  · have hu : u = .pointer (some ⟨b, 0, none⟩) := by
      cases u3 with
      | rp _ _ _ _ a _ h =>
        obtain ⟨b', hb', rfl⟩ := (h l' hl).2 hgen
        rw [hb] at hb'
        cases hb'
        simp
    subst hu
    refine (cc_used b w u1).mono ?_
    rintro e w' ⟨rfl, rfl⟩
    refine .inl ⟨_, rfl, Res.same hr (.tup [] #[] rfl (by intro j a x h; simp at h)) ⟨rfl, ?_⟩⟩
    cases σ with
    | mk get next =>
      simp only [Store.set, Store.mk.injEq, and_true]
      funext j
      split
      · rename_i h; subst h; exact hp
      · rfl
/-- A builder that holds these bytes. -/
def isB (σ : Store) (p i : Nat) (l : W) : Prop := (∃ x, (x = .c (.pointer none) ∨ x = .rp p 0 0 0) ∧ σ.get p = some (.arr 79 0 [.agg [x, .lg i (l.map byteV)]])) ∧ σ.get i = some (.log 5 l.length)
/-- The store with a builder that holds these bytes. -/
def wb (σ : Store) (p i : Nat) (l : W) : Store := (σ.set p (.arr 79 0 [.agg [.rp p 0 0 0, .lg i (l.map byteV)]])).set i (.log 5 l.length)
theorem wb_get (σ : Store) (p i : Nat) (l : W) (j : Nat) : (wb σ p i l).get j = if j = i then some (.log 5 l.length) else if j = p then some (.arr 79 0 [.agg [.rp p 0 0 0, .lg i (l.map byteV)]]) else σ.get j := rfl
@[simp] theorem wb_next (σ : Store) (p i : Nat) (l : W) : (wb σ p i l).next = σ.next := rfl
theorem isB.ne {σ : Store} {p i : Nat} {l : W} (h : isB σ p i l) : p ≠ i := by
  rintro rfl
  obtain ⟨⟨x, _, h1⟩, h2⟩ := h
  rw [h1] at h2
  cases h2
theorem wb_isB {σ : Store} {p i : Nat} (h : p ≠ i) (l : W) : isB (wb σ p i l) p i l := ⟨⟨_, .inr rfl, by rw [wb_get, if_neg h, if_pos rfl]⟩, by rw [wb_get, if_pos rfl]⟩
theorem store_ext {σ τ : Store} (h : ∀ j, σ.get j = τ.get j) (hn : σ.next = τ.next) : σ = τ := by
  cases σ; cases τ
  simp only [Store.mk.injEq] at hn ⊢
  exact ⟨funext h, hn⟩
theorem wb_wb (σ : Store) (p i : Nat) (l m : W) : wb (wb σ p i l) p i m = wb σ p i m := by
  refine store_ext (fun j => ?_) rfl
  simp only [wb_get]
  split
  · rfl
  · split <;> rfl
theorem wb_bel {σ : Store} {p i : Nat} {l : W} (hσ : StoreBel σ) (h : isB σ p i l) (m : W) : StoreBel (wb σ p i m) := by
  obtain ⟨⟨x, _, h1⟩, h2⟩ := h
  have hp := (hσ _ _ h1).1
  have hi := (hσ _ _ h2).1
  intro j o ho
  rw [wb_get] at ho
  split at ho
  · rename_i e; subst e; cases ho; exact ⟨hi, trivial⟩
  · split at ho
    · rename_i e; subst e; cases ho
      refine ⟨hp, ?_⟩
      intro e he x hx
      simp at he
      subst he
      simp [AV.cells] at hx
      rcases hx with rfl | rfl
      · exact .rp _ _ _ _ hp
      · exact .lg _ _ hi (by simp)
    · exact hσ j o ho
theorem WriteString_c (s : W) (p i : Nat) (l : W) (hl : l.length + s.length ≤ 1000000000) (σ : Store) (hw : isB σ p i l) :
    ACalls E 36 [.rp p 0 0 0, str s] σ fun a s' => a = .tup [intV s.length, .c .nilIface] ∧ s' = wb σ p i (l ++ s) := by
  have hne := hw.ne
  refine ACalls.enterA [2000014] Tryd.func36 rfl Tryd.ntmps36 Tryd.results36 hmE (by kernel_rfl) (by simp) fun hσ => ?_
  conv => arg 5; cbv
  obtain ⟨⟨x, hx, h1⟩, h2⟩ := hw
  have hn1 := (hσ _ _ h1).1
  have hi1 := (hσ _ _ h2).1
  simp
  refine (cc_c hx h1).mono ?_
  rintro a s' ⟨rfl, rfl⟩
  simp [hne, hne.symm, h2]
  refine ⟨by omega, by omega, Fin.same (by simp) ⟨rfl, store_ext (fun j => ?_) rfl⟩⟩
  rw [wb_get]
  by_cases h : j = p
  · subst h; simp [hne]
  · by_cases h' : j = i
    · subst h'; simp [h]
    · simp [h, h']
/-- The store without the builder. -/
theorem String_c (p i : Nat) (l : W) (hne : l ≠ []) (hl : l.length ≤ 1000000000) (σ : Store) (hw : isB σ p i l) :
    ACalls E 39 [.rp p 0 0 0] σ fun a s => a = str l ∧ s = σ.drop i := by
  intro Γ w vs hr hvs
  obtain ⟨v, rfl, hv⟩ := vrs_one hvs
  obtain ⟨⟨x, hx, hp⟩, hi⟩ := hw
  obtain ⟨lo, b, hlo, hb, hgen, rfl, hc⟩ := hr.rp_cells hv hp (k := 0) rfl
  simp only [Nat.zero_mul, Nat.zero_add, List.drop_zero] at hc
  have e0 : (⟨b, 0 * lo.sz + 0, none⟩ : Addr) = ⟨b, 0, none⟩ := by simp
  rw [e0]
  obtain ⟨u, u1, u2, u3⟩ := hc 1 _ rfl
  simp only [Nat.zero_add] at u1
  cases u3 with
  | lg _ _ _ h1 h2 h3 =>
    obtain ⟨lg, hlg, hol, _⟩ := hr.loc hi
    simp only [ObjRel] at hol
    obtain ⟨g1, g2, g3, g4, g5⟩ := hol
    have hes : l.map byteV ≠ [] := by simpa using hne
    cases h1 with
    | ps _ a cap bb o us hcc ha hwc h1c hvc =>
      obtain ⟨rfl, hbb⟩ := ha hes
      obtain ⟨a', cap', hs', _, hlc, hat⟩ := h2.rs_inv
      cases hs'
      have hat' := (hat lg hlg).2 (by rw [g1]; simp)
      unfold Loc.rsAt at hat'
      cases hbl : lg.blk with
      | none =>
        rw [hbl] at g5
        exact absurd (by simpa using g5.1) hne
      | some g =>
        simp only [hbl] at hat' g5
        obtain ⟨r1, r2, r3⟩ := hat'
        have hao := r3 trivial
        simp at hao
        obtain ⟨rfl, rfl⟩ := hao
        obtain ⟨xs, fr, k1, k2, k3⟩ := g5
        have hcp : l.length ≤ cap := by simpa using hcc
        have hl0 : l.length ≠ 0 := by simpa using hne
        have hcell : ∀ j y, l[j]? = some y → w.cell? ⟨bb, j, none⟩ = some (.int .u8 y.toNat) := by
          intro j y hy
          have hj : (l.map byteV)[j]? = some (byteV y) := by rw [List.getElem?_map, hy]; rfl
          have e := (hwc j _ 0 _ hj rfl).1
          have hvj := hvc j _ 0 _ hj rfl
          generalize us j 0 = uu at hvj e
          have hvj : VR Γ w (.c (.int .u8 y.toNat)) uu := hvj
          cases hvj
          simpa [AV.cells] using e
        have hxs : l.length ≤ xs.size := by
          have hlast := List.getElem?_eq_getElem (show l.length - 1 < l.length by omega)
          have := hcell _ _ hlast
          simp only [World.cell?, k1] at this
          have := (Array.getElem?_eq_some_iff.1 this).1
          omega
        simp at u1
        refine (string_exact b bb cap xs.size l w hne u1 (by omega) (by simp [World.shape?, k1]) hxs (by omega) hcell).mono ?_
        rintro e w' ⟨rfl, rfl⟩
        obtain ⟨z1, z2⟩ := hr.unfreeze hlg hbl l.length
        exact .inl ⟨_, rfl, Γ.drop i, str l, σ.drop i, z1, z2, .c _ rfl, rfl, rfl⟩
end Go.Proofs.YtebjdgcnnonjoaaDoor
end

section
set_option linter.unusedVariables false
set_option linter.unusedSimpArgs false
set_option linter.unnecessarySimpa false
namespace Go.Proofs.YtebjdgcnnonjoaaDoor
open Go Go.AW
set_option maxRecDepth 100000
set_option maxHeartbeats 8000000

theorem plain_p (c : UInt8) : Pur E 29 [.c (.int .u8 c.toNat)] (boolV (plainB c)) := by
  refine Pur.enter [] Tryd.func29 rfl Tryd.ntmps29 Tryd.results29 hmE (by kernel_rfl) (by simp) (by simp) fun σ hσ => ?_
  conv => arg 5; cbv
  simp
  rw [plainB, Bool.eq_iff_iff]
  simp
  omega
theorem bel_bs {m : Nat} (l : W) : ∀ a ∈ l.map byteV, Bel m a := by simp
theorem bel_lg {m i : Nat} (h : i < m) (l : W) : Bel m (.lg i (l.map byteV)) := .lg _ _ h (bel_bs l)
theorem hexs_at (n : Nat) (h : n < 16) : hexs[n]? = some (hx n) := by
  rw [hx, List.getD, List.getElem?_eq_getElem (show n < hexs.length by simpa [hexs] using h)]; rfl
theorem wrap8 (n : Nat) (h : n < 256) : IntKind.u8.wrap (n : Int) = n := by
  have : ∀ n : Fin 256, IntKind.u8.wrap ((n : Nat) : Int) = ((n : Nat) : Int) := by decide +kernel
  exact this ⟨n, h⟩
theorem Escape_p (s : W) (hs : s.length ≤ 100000000) : Pur E 15 [str s] (str (esc s)) := by
  refine Pur.enter [3000003] Tryd.func15 rfl Tryd.ntmps15 Tryd.results15 hmE (by kernel_rfl) (by simp) (by simp) fun σ hσ => ?_
  conv => arg 5; cbv
  simp
  refine loop_x hmE (by kernel_rfl) (· + 1) 0 (fun i : Nat => [(8, intV i), (3, .lg σ.next ((esc (s.take i)).map byteV))]) (fun i : Nat => σ.alloc (.log 5 (esc (s.take i)).length)) (fun i : Nat => i ≤ s.length) (fun i => s.length - i) (by simp) (fun i hi => ⟨by simp, hσ.alloc_log _ _, by have := bel_lg (Nat.lt_succ_self σ.next) (esc (s.take i)); simp at this; simpa using this⟩) (by simp [esc]) (by simp [esc]) fun i hi => ?_
  obtain ⟨o, ho⟩ : ∃ o, o = esc (s.take i) := ⟨_, rfl⟩
  have hol := (esc_len (s.take i)).2
  have hti : (s.take i).length ≤ s.length := by simp; omega
  rw [← ho] at hol ⊢
  simp
  refine ⟨fun h => ?_, fun h => ?_⟩
  · obtain ⟨c, hc⟩ := get_ex h
    have hsn : esc (s.take (i + 1)) = o ++ esc1 c := by rw [List.take_add_one, hc, esc_append, ← ho]; simp [esc]
    have hcl := c.toNat_lt
    simp [hc]
    refine ⟨h, Pur.call (plain_p c) ?_⟩
    simp
    have hb1 : (esc (s.take (i + 1))).map byteV = o.map byteV ++ (esc1 c).map byteV := by rw [hsn]; simp
    have hb2 : (esc (s.take (i + 1))).length = o.length + (esc1 c).length := by rw [hsn]; simp
    rw [hb1, hb2]
    refine ⟨fun hp => ?_, fun hp => ?_⟩
    · rw [esc1, if_pos hp]
      exact ⟨by omega, by omega, Below.refl _, ⟨rfl, wrap_succ h (by omega)⟩, by omega, by omega⟩
    · rw [esc1, if_neg (by simp [hp])]
      have e1 : IntKind.u8.wrap ((c.toNat : Int) / 16) = ((c.toNat / 16 : Nat) : Int) := by rw [show (c.toNat : Int) / 16 = ((c.toNat / 16 : Nat) : Int) by simp, wrap8 _ (by omega)]
      have e2 : (c.toNat : Int).tmod 16 = ((c.toNat % 16 : Nat) : Int) := rfl
      rw [e1, e2]
      have h1 := hexs_at (c.toNat / 16) (by omega)
      have h2 := hexs_at (c.toNat % 16) (by omega)
      simp only [hexs] at h1 h2
      simp only [Int.toNat_natCast, h1, h2, Option.getD_some]
      exact ⟨by omega, by omega, by omega, by omega, by omega, by omega, Below.refl _, ⟨rfl, wrap_succ h (by omega)⟩, by omega, by omega⟩
  · rw [ho, List.take_of_length_le h]
theorem bs_get {s : W} {k : Nat} {b : UInt8} (h : s[k]? = some b) : (bs s).get! k = b := by
  have hk := (List.getElem?_eq_some_iff.1 h).1
  show (s.toArray)[k]! = b
  simp [h]
/-- What a step of a range over a string reads. -/
theorem dec_lo {s : W} {k : Nat} {b : UInt8} (h : s[k]? = some b) (hb : b.toNat < 128) : Utf8.decode (bs s) k = (b.toNat, 1) := by
  have hk := (List.getElem?_eq_some_iff.1 h).1
  unfold Utf8.decode
  simp only [Nat.add_zero, bs_get h]
  rw [if_pos hb]
theorem dec_hi {s : W} {k : Nat} {b : UInt8} (h : s[k]? = some b) (hb : 128 ≤ b.toNat) : 128 ≤ (Utf8.decode (bs s) k).1 ∧ Utf8.valid (Utf8.decode (bs s) k).1 = true ∧ 1 ≤ (Utf8.decode (bs s) k).2 ∧ k + (Utf8.decode (bs s) k).2 ≤ s.length ∧ ∀ j y, j < (Utf8.decode (bs s) k).2 → s[k + j]? = some y → 128 ≤ y.toNat := by
  have hk := (List.getElem?_eq_some_iff.1 h).1
  have h0 : ∀ j y, j < 1 → s[k + j]? = some y → 128 ≤ y.toNat := fun j y hj hy => by
    obtain rfl : j = 0 := by omega
    rw [Nat.add_zero, h] at hy; cases hy; exact hb
  have hc : ∀ j y, (decide (k + j < (bs s).size) && ((bs s).get! (k + j)).toNat / 64 == 2) = true → s[k + j]? = some y → 128 ≤ y.toNat := fun j y hj hy => by
    rw [bs_get hy] at hj
    simp at hj
    omega
  have hlen : ∀ j, (decide (k + j < (bs s).size) && ((bs s).get! (k + j)).toNat / 64 == 2) = true → k + (j + 1) ≤ s.length := fun j hj => by
    simp at hj
    omega
  have he : 128 ≤ Utf8.runeError ∧ Utf8.valid Utf8.runeError = true := by decide
  unfold Utf8.decode
  simp only [Nat.add_zero, bs_get h]
  rw [if_neg (by omega)]
  split
  · rename_i c1
    simp only [Bool.and_eq_true] at c1
    split
    · rename_i c2
      refine ⟨c2, ?_, by simp, hlen 1 (by simpa using c1.2), fun j y hj hy => ?_⟩
      · simp [Utf8.valid]; omega
      · match j, hj with
        | 0, _ => exact h0 0 y (by omega) hy
        | 1, _ => exact hc 1 y (by simpa using c1.2) hy
    · exact ⟨he.1, he.2, by simp, by simp; omega, h0⟩
  · split
    · rename_i c1
      simp only [Bool.and_eq_true] at c1
      split
      · rename_i c2
        simp only [Bool.and_eq_true, decide_eq_true_eq] at c2
        refine ⟨by omega, c2.2, by simp, hlen 2 (by simpa using c1.2), fun j y hj hy => ?_⟩
        match j, hj with
        | 0, _ => exact h0 0 y (by omega) hy
        | 1, _ => exact hc 1 y (by simpa using c1.1.2) hy
        | 2, _ => exact hc 2 y (by simpa using c1.2) hy
      · exact ⟨he.1, he.2, by simp, by simp; omega, h0⟩
    · split
      · rename_i c1
        simp only [Bool.and_eq_true] at c1
        split
        · rename_i c2
          simp only [Bool.and_eq_true, decide_eq_true_eq] at c2
          refine ⟨by omega, c2.2, by simp, hlen 3 (by simpa using c1.2), fun j y hj hy => ?_⟩
          match j, hj with
          | 0, _ => exact h0 0 y (by omega) hy
          | 1, _ => exact hc 1 y (by simpa using c1.1.1.2) hy
          | 2, _ => exact hc 2 y (by simpa using c1.1.2) hy
          | 3, _ => exact hc 3 y (by simpa using c1.2) hy
        · exact ⟨he.1, he.2, by simp, by simp; omega, h0⟩
      · exact ⟨he.1, he.2, by simp, by simp; omega, h0⟩
theorem digits_p : Pur E 32 [] (str hexs) := by
  refine Pur.enter [] Tryd.func32 rfl Tryd.ntmps32 Tryd.results32 hmE (by kernel_rfl) (by simp) (by simp) fun σ hσ => ?_
  conv => arg 5; cbv
  simp [hexs]
theorem rEscape_p (s : W) (hs : s.length ≤ 100000000) : Pur E 16 [str s] (str (esc s)) := by
  refine Pur.enter [6000032] Tryd.func16 rfl Tryd.ntmps16 Tryd.results16 hmE (by kernel_rfl) (by simp) (by simp) fun σ hσ => ?_
  conv => arg 5; cbv
  simp
  refine loop_x hmE (by kernel_rfl) (· + 1) 0 (fun i : Nat => [(4, intV i), (3, str (esc (s.take i)))]) (fun i : Nat => σ) (fun i : Nat => i ≤ s.length) (fun i => s.length - i) (by simp) (fun i hi => ⟨by simp, hσ, by simp⟩) (by simp [esc]) (by simp [esc]) fun i hi => ?_
  obtain ⟨o, ho⟩ : ∃ o, o = esc (s.take i) := ⟨_, rfl⟩
  have hol := (esc_len (s.take i)).2
  have hti : (s.take i).length ≤ s.length := by simp; omega
  rw [← ho] at hol ⊢
  simp
  refine ⟨fun h => ?_, fun h => ?_⟩
  · obtain ⟨c, hc⟩ := get_ex h
    have hsn : esc (s.take (i + 1)) = o ++ esc1 c := by rw [List.take_add_one, hc, esc_append, ← ho]; simp [esc]
    have hcl := c.toNat_lt
    have hw : IntKind.i64.wrap (c.toNat : Int) = c.toNat := wrap64_id (by omega) (by omega)
    have hw1 : IntKind.i64.wrap ((i : Int) + 1) = (i : Int) + 1 := wrap64_id (by omega) (by omega)
    have hdr : (s.drop i).take 1 = [c] := by
      have e := List.getElem?_eq_some_iff.1 hc
      rw [List.drop_eq_getElem_cons e.1, e.2]; rfl
    have hsn' : bs (esc (s.take (i + 1))) = bs (o ++ esc1 c) := by rw [hsn]
    rw [hsn']
    by_cases hp : plainB c = true
    · have hp' := hp
      simp [plainB] at hp'
      obtain ⟨p1, p2, p3⟩ := hp'
      have e1 : ((i : Int) + 1).toNat - i = 1 := by omega
      have m1 : min 1 (s.length - i) = 1 := by omega
      simp [hc, hw, hw1, show (33 : Int) ≤ c.toNat by omega, show (c.toNat : Int) ≤ 126 by omega, show ¬ (c.toNat : Int) = 37 by omega, show ¬ (126 : Int) < c.toNat by omega, show ¬ (c.toNat : Int) < 33 by omega, e1, hdr, m1, show o.length ≤ 9223372036854775806 by omega]
      rw [esc1, if_pos hp]
      exact ⟨h, by omega, by omega, rfl, by omega, by omega⟩
    · have hd16 : IntKind.i64.wrap ((c.toNat : Int) / 16) = ((c.toNat / 16 : Nat) : Int) := by rw [show (c.toNat : Int) / 16 = ((c.toNat / 16 : Nat) : Int) by simp]; exact wrap64_id (by omega) (by omega)
      have hm16 : (c.toNat : Int).tmod 16 = ((c.toNat % 16 : Nat) : Int) := rfl
      have k1 : IntKind.i64.wrap (((c.toNat / 16 : Nat) : Int) + 1) = ((c.toNat / 16 : Nat) : Int) + 1 := wrap64_id (by omega) (by omega)
      have k2 : IntKind.i64.wrap (((c.toNat % 16 : Nat) : Int) + 1) = ((c.toNat % 16 : Nat) : Int) + 1 := wrap64_id (by omega) (by omega)
      have x1 : (hexs.drop (c.toNat / 16)).take 1 = [hx (c.toNat / 16)] := by
        have e := List.getElem?_eq_some_iff.1 (hexs_at (c.toNat / 16) (by omega))
        rw [List.drop_eq_getElem_cons e.1, e.2]; rfl
      have x2 : (hexs.drop (c.toNat % 16)).take 1 = [hx (c.toNat % 16)] := by
        have e := List.getElem?_eq_some_iff.1 (hexs_at (c.toNat % 16) (by omega))
        rw [List.drop_eq_getElem_cons e.1, e.2]; rfl
      have hxl : hexs.length = 16 := rfl
      have t1 : (((c.toNat / 16 : Nat) : Int) + 1).toNat - c.toNat / 16 = 1 := by omega
      have t2 : (((c.toNat % 16 : Nat) : Int) + 1).toNat - c.toNat % 16 = 1 := by omega
      have hesc : esc1 c = [37, hx (c.toNat / 16), hx (c.toNat % 16)] := by rw [esc1, if_neg hp]
      have hor : c.toNat < 33 ∨ 126 < c.toNat ∨ c.toNat = 37 := by
        simp [plainB] at hp
        omega
      have hl' : o.length ≤ 9223372036854775806 := by omega
      have m1 : min 1 (16 - c.toNat / 16) = 1 := by omega
      have m2 : min 1 (16 - c.toNat % 16) = 1 := by omega
      have l2 : o.length ≤ 9223372036854775805 := by omega
      have l3 : o.length ≤ 9223372036854775804 := by omega
      have b0 : ((c.toNat / 16 : Nat) : Int) ≤ ((c.toNat / 16 : Nat) : Int) + 1 ∧ ((c.toNat / 16 : Nat) : Int) + 1 ≤ 16 := by omega
      have b1 : ((c.toNat % 16 : Nat) : Int) ≤ ((c.toNat % 16 : Nat) : Int) + 1 ∧ ((c.toNat % 16 : Nat) : Int) + 1 ≤ 16 := by omega
      rcases hor with hor | hor | hor
      · simp [hc, hw, hw1, show (c.toNat : Int) < 33 by omega, show ¬ (33 : Int) ≤ c.toNat by omega, hl']
        refine ⟨h, Pur.q digits_p ?_⟩
        simp [hd16, hm16, k1, k2, hxl, x1, x2, t1, t2, m1, m2, l2, l3, b0, b1, -Int.natCast_ediv, -Int.natCast_emod]
        refine Pur.q digits_p ?_
        simp [hd16, hm16, k1, k2, hxl, x1, x2, t1, t2, m1, m2, l2, l3, b0, b1, hesc, -Int.natCast_ediv, -Int.natCast_emod]
        exact ⟨by omega, by omega⟩
      · simp [hc, hw, hw1, show ¬ (c.toNat : Int) < 33 by omega, show (33 : Int) ≤ c.toNat by omega, show (126 : Int) < c.toNat by omega, show ¬ (c.toNat : Int) ≤ 126 by omega, hl']
        refine ⟨h, Pur.q digits_p ?_⟩
        simp [hd16, hm16, k1, k2, hxl, x1, x2, t1, t2, m1, m2, l2, l3, b0, b1, -Int.natCast_ediv, -Int.natCast_emod]
        refine Pur.q digits_p ?_
        simp [hd16, hm16, k1, k2, hxl, x1, x2, t1, t2, m1, m2, l2, l3, b0, b1, hesc, -Int.natCast_ediv, -Int.natCast_emod]
        exact ⟨by omega, by omega⟩
      · obtain rfl : c = 37 := UInt8.toNat_inj.1 hor
        have y1 : IntKind.i64.wrap 37 = 37 := by decide
        have y2 : IntKind.i64.wrap 2 = 2 := by decide
        have y3 : IntKind.i64.wrap 3 = 3 := by decide
        have y4 : (37 : Int).tmod 16 = 5 := by decide
        have y5 : IntKind.i64.wrap 6 = 6 := by decide
        have y6 : (hexs.drop 2).take 1 = [50] := rfl
        have y7 : (hexs.drop 5).take 1 = [53] := rfl
        simp [hc, y1, hw1, hl']
        refine ⟨h, Pur.q digits_p ?_⟩
        simp [y2, y3, y4, y5, y6, y7, hxl, l2, l3]
        refine Pur.q digits_p ?_
        simp [y2, y3, y4, y5, y6, y7, hxl, l2, l3]
        have hw1' : IntKind.i64.wrap ((i : Int) + 1) = (i : Int) + 1 := hw1
        exact ⟨⟨rfl, hw1'⟩, by omega, by omega⟩
  · rw [ho, List.take_of_length_le h]
/-- What Unescape answers. -/
def unV (s : W) : W × Bool := match un s with
  | some o => (o, true)
  | none => ([], false)
theorem Unescape_p (s : W) (hs : s.length ≤ 100000000) : Pur E 11 [str s] (.tup [str (unV s).1, boolV (unV s).2]) := by
  refine Pur.enter [3000004, 6000028] Tryd.func11 rfl Tryd.ntmps11 Tryd.results11 hmE (by kernel_rfl) (by simp) (by simp) fun σ hσ => ?_
  conv => arg 5; cbv
  simp
  refine loop_e hmE (by kernel_rfl) (0, ([] : W), 0) (fun x : Nat × W × Nat => [(4, .lg σ.next (x.2.1.map byteV)), (5, intV x.2.2)]) (fun x => (σ.alloc (.log 5 x.2.1.length)).alloc (.it (.stringIter (bs s) x.1)))
    (fun x => x.1 + x.2.2 ≤ s.length ∧ x.2.1.length ≤ x.1 + x.2.2 ∧ x.2.2 ≤ 2 ∧ (∀ j b, j < x.2.2 → s[x.1 + j]? = some b → b.toNat < 128) ∧ un s = (un (s.drop (x.1 + x.2.2))).map (x.2.1 ++ ·)) (fun x => s.length - x.1) (by simp) (fun x hx => ⟨by simp, (hσ.alloc_log _ _).alloc_obj (by trivial), by have := bel_lg (show σ.next < σ.next + 1 + 1 by omega) x.2.1; simp at this; simpa using this⟩) (by simp) (by simp) fun x hx => ?_
  obtain ⟨i, out, sk⟩ := x
  obtain ⟨h1, h2, h3, h4, h5⟩ := hx
  simp only at h1 h2 h3 h4 h5
  simp
  split
  · rename_i h
    obtain ⟨b, hb⟩ := get_ex h
    have hdrop : s.drop i = b :: s.drop (i + 1) := by
      have e := List.getElem?_eq_some_iff.1 hb
      rw [List.drop_eq_getElem_cons e.1, e.2]
    have hskw : 0 < sk → IntKind.i64.wrap ((sk : Int) - 1) = ((sk - 1 : Nat) : Int) := fun hk => by rw [wrap64_id (by omega) (by omega)]; omega
    by_cases hlo : b.toNat < 128
    · rw [dec_lo hb hlo]
      refine ⟨fun hk => ⟨i + 1, out, sk - 1, ⟨⟨by omega, by omega, by omega, fun j c hj hc => h4 (j + 1) c (by omega) (by rw [show i + (j + 1) = i + 1 + j by omega]; exact hc), by rw [show i + 1 + (sk - 1) = i + sk by omega]; exact h5⟩, by omega⟩, Below.refl _, rfl, hskw hk⟩, fun hk => ?_⟩
      subst hk
      simp only [Nat.add_zero] at h5
      rw [hdrop] at h5
      by_cases h37 : b = 37
      · subst h37
        have w1 : IntKind.i64.wrap ((i : Int) + 1) = (i : Int) + 1 := wrap64_id (by omega) (by omega)
        have w2 : IntKind.i64.wrap ((i : Int) + 2) = (i : Int) + 2 := wrap64_id (by omega) (by omega)
        have t1 : ((i : Int) + 1).toNat = i + 1 := by omega
        have t2 : ((i : Int) + 2).toNat = i + 2 := by omega
        simp [w1, w2, t1, t2]
        refine ⟨fun hend => ?_, fun hend => ⟨by omega, by omega, ?_⟩⟩
        · have : un s = none := by
            rw [h5]
            have hl : (s.drop (i + 1)).length < 2 := by simp; omega
            match hd : s.drop (i + 1), hl with
            | [], _ => simp [un]
            | [a], _ => simp [un]
          rw [unV, this]
          exact ⟨rfl, rfl⟩
        · obtain ⟨a1, ha1⟩ := get_ex (l := s) (i := i + 1) (by omega)
          obtain ⟨a2, ha2⟩ := get_ex (l := s) (i := i + 2) (by omega)
          have hd2 : s.drop (i + 1) = a1 :: a2 :: s.drop (i + 3) := by
            have e := List.getElem?_eq_some_iff.1 ha1
            have e2 := List.getElem?_eq_some_iff.1 ha2
            rw [List.drop_eq_getElem_cons e.1, e.2, List.drop_eq_getElem_cons e2.1, e2.2]
          rw [hd2, un, if_pos rfl] at h5
          simp [ha1, ha2]
          refine Pur.q (IndexByte_p hexs a1) ?_
          simp [w2, t2, ha2]
          refine ⟨by omega, by omega, Pur.q (IndexByte_p hexs a2) ?_⟩
          simp
          by_cases hk : hexOk a1 a2 = true
          · have hk' := hk
            simp [hexOk] at hk'
            obtain ⟨⟨x1, x2⟩, x3⟩ := hk'
            have x1' : 0 ≤ Lib.indexByte hexs a1 := x1
            have x2' : 0 ≤ Lib.indexByte hexs a2 := x2
            have u1 : Lib.indexByte hexs a1 < 16 := (hv_lt a1 x1).1
            have u2 : Lib.indexByte hexs a2 < 16 := (hv_lt a2 x2).1
            have e : IntKind.u8.wrap (IntKind.i64.wrap (IntKind.i64.wrap (16 * Lib.indexByte hexs a1) + Lib.indexByte hexs a2)) = ((byteOf a1 a2).toNat : Int) := by
              rw [wrap64_id (x := 16 * Lib.indexByte hexs a1) (by omega) (by omega), wrap64_id (by omega) (by omega)]
              obtain ⟨n, hn⟩ : ∃ n : Nat, 16 * Lib.indexByte hexs a1 + Lib.indexByte hexs a2 = n := ⟨(16 * Lib.indexByte hexs a1 + Lib.indexByte hexs a2).toNat, by omega⟩
              rw [hn, wrap8 n (by omega)]
              have hb : byteOf a1 a2 = UInt8.ofNat n := by unfold byteOf hv; rw [hn]; rfl
              rw [hb]
              simp <;> omega
            rw [e]
            rw [if_pos hk] at h5
            refine ⟨fun q => by omega, fun _ => ⟨fun q => by omega, fun _ => Pur.call (plain_p _) ?_⟩⟩
            simp [x3, e]
            refine ⟨by omega, by omega, i + 1, out ++ [byteOf a1 a2], 2, ⟨⟨by omega, by simp; omega, by omega, fun j c hj hc => ?_, ?_⟩, by omega⟩, ?_, by simp, rfl⟩
            · have has : ∀ a : UInt8, 0 ≤ hv a → a.toNat < 128 := by
                intro a ha
                have := all8 (fun a => decide (0 ≤ hv a → a.toNat < 128)) (by decide +kernel) a
                exact (of_decide_eq_true this) ha
              have hj2 : j = 0 ∨ j = 1 := by omega
              rcases hj2 with rfl | rfl
              · rw [show i + 1 + 0 = i + 1 by omega, ha1] at hc; cases hc; exact has _ x1
              · rw [show i + 1 + 1 = i + 2 by omega, ha2] at hc; cases hc; exact has _ x2
            · rw [h5, show i + 1 + 2 = i + 3 by omega]
              cases un (s.drop (i + 3)) <;> simp
            · first | (simp; done) | (simp; exact Below.refl _)
          · have hun : un s = none := by rw [h5, if_neg hk]; rfl
            have hV : (unV s).1 = [] ∧ (unV s).2 = false := by rw [unV, hun]; exact ⟨rfl, rfl⟩
            refine ⟨fun _ => hV, fun x1' => ⟨fun _ => hV, fun x2' => ?_⟩⟩
            have x1 : 0 ≤ hv a1 := x1'
            have x2 : 0 ≤ hv a2 := x2'
            have u1 : Lib.indexByte hexs a1 < 16 := (hv_lt a1 x1).1
            have u2 : Lib.indexByte hexs a2 < 16 := (hv_lt a2 x2).1
            have e : IntKind.u8.wrap (IntKind.i64.wrap (IntKind.i64.wrap (16 * Lib.indexByte hexs a1) + Lib.indexByte hexs a2)) = ((byteOf a1 a2).toNat : Int) := by
              rw [wrap64_id (x := 16 * Lib.indexByte hexs a1) (by omega) (by omega), wrap64_id (by omega) (by omega)]
              obtain ⟨n, hn⟩ : ∃ n : Nat, 16 * Lib.indexByte hexs a1 + Lib.indexByte hexs a2 = n := ⟨(16 * Lib.indexByte hexs a1 + Lib.indexByte hexs a2).toNat, by omega⟩
              rw [hn, wrap8 n (by omega)]
              have hb : byteOf a1 a2 = UInt8.ofNat n := by unfold byteOf hv; rw [hn]; rfl
              rw [hb]
              simp <;> omega
            rw [e]
            refine Pur.call (plain_p _) ?_
            have hp : plainB (byteOf a1 a2) = true := by
              simp [hexOk, x1, x2] at hk
              exact hk
            simp [hp]
            exact hV
      · have hbi : ¬ (b.toNat : Int) = 37 := fun e => h37 (UInt8.toNat_inj.1 (by show b.toNat = 37; omega))
        rw [un_ne h37] at h5
        have w8 : IntKind.u8.wrap (b.toNat : Int) = b.toNat := wrap8 _ (by omega)
        by_cases hp : plainB b = true
        · have hp' := hp
          simp [plainB] at hp'
          obtain ⟨p1, p2, p3⟩ := hp'
          rw [if_pos hp] at h5
          simp [hbi, w8, show ¬ (b.toNat : Int) < 33 by omega, show ¬ (126 : Int) < b.toNat by omega]
          refine fun _ _ => ⟨by omega, by omega, i + 1, out ++ [b], 0, ⟨⟨by omega, by simp; omega, by omega, fun j c hj => absurd hj (by omega), ?_⟩, by omega⟩, ?_, by simp, rfl⟩
          · rw [h5]
            cases un (s.drop (i + 1)) <;> simp [*]
          · first | (simp; done) | (simp; exact Below.refl _)
        · have hun : un s = none := by rw [h5, if_neg hp]; rfl
          have hV : (unV s).1 = [] ∧ (unV s).2 = false := by rw [unV, hun]; exact ⟨rfl, rfl⟩
          have hor : b.toNat < 33 ∨ 126 < b.toNat := by
            have h37' : ¬ b.toNat = 37 := fun e => hbi (by omega)
            simp [plainB] at hp
            omega
          rcases hor with hor | hor
          · simp [hbi, hV, show (b.toNat : Int) < 33 by omega]
            exact fun q => by omega
          · simp [hbi, hV, show (126 : Int) < b.toNat by omega]
            exact fun _ q => by omega
    · obtain ⟨d1, d2, d3, d5, d4⟩ := dec_hi hb (by omega)
      have hk : sk = 0 := Nat.eq_zero_of_not_pos fun hk => hlo (h4 0 b hk (by simpa using hb))
      subst hk
      generalize hdd : Utf8.decode (bs s) i = d at *
      simp only [Nat.add_zero] at h5
      have hun : un s = none := by
        rw [h5, hdrop, un_ne (by rintro rfl; simp at hlo), if_neg (by simp [plainB]; omega)]
        rfl
      have hV : (unV s).1 = [] ∧ (unV s).2 = false := by rw [unV, hun]; exact ⟨rfl, rfl⟩
      simp [show ¬ (d.1 : Int) = 37 by omega, show ¬ (d.1 : Int) < 33 by omega, show (126 : Int) < d.1 by omega, hV]
      exact fun _ q => by omega
  · rename_i h
    have hk : sk = 0 := by omega
    subst hk
    have hi : i = s.length := by omega
    subst hi
    simp [un] at h5
    simp [unV, h5]
end Go.Proofs.YtebjdgcnnonjoaaDoor
end
