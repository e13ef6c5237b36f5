/- Functions that leave the store as it was; loops; what is handed back. No condition. -/
import Derived.Test.YtkbklfodaemkoaaDoorS1
set_option linter.unusedVariables false
set_option linter.unusedSimpArgs false
set_option linter.unnecessarySimpa false
namespace Go.AW
open Go

/-- The function answers r and leaves the store as it was. -/
def Pur (E : Env) (k : FuncId) (args : List AV) (r : AV) : Prop := ∀ σ, ACalls E k args σ fun a s => a = r ∧ s = σ

theorem SR.ps_map {σ σ2 : Store} (es : List AV) (h : ∀ x ∈ es, ∀ (j : Nat) (y : AV), x.cells[j]? = some y → SR σ σ2 y (frz y)) : SR σ σ2 (.ps es) (.ps (frzL es)) := by
  rw [frzL_eq]
  refine .ps es _ (by simp) (fun k a b ha hb => ?_) (fun k a b j x y ha hb hx hy => ?_)
  · rw [List.getElem?_map, ha] at hb
    cases hb
    rw [frz_cells, frzL_eq, List.length_map]
  · rw [List.getElem?_map, ha] at hb
    cases hb
    rw [frz_cells, frzL_eq, List.getElem?_map, hx] at hy
    cases hy
    exact h a (List.mem_of_getElem? ha) j x hx
theorem mem_cells_sz {a y : AV} {j : Nat} (h : a.cells[j]? = some y) : SizeOf.sizeOf y ≤ SizeOf.sizeOf a := by
  cases a <;> simp only [AV.cells] at h
  case agg cs =>
    have := List.sizeOf_lt_of_mem (List.mem_of_getElem? h)
    simp; omega
  all_goals (cases j <;> simp at h; subst h; exact Nat.le_refl _)
theorem sr_frz (σ σ2 : Store) (a : AV) : SR σ σ2 a (frz a) := by
  match a with
  | .nl => rw [frz_nl]; exact .nl
  | .agg cs =>
    rw [frz_agg, frzL_eq]
    refine .agg _ _ (by simp) fun j x y hx hy => ?_
    rw [List.getElem?_map, hx] at hy
    cases hy
    have := List.sizeOf_lt_of_mem (List.mem_of_getElem? hx)
    exact sr_frz σ σ2 x
  | .tup cs =>
    rw [frz_tup, frzL_eq]
    refine .tup _ _ (by simp) fun j x y hx hy => ?_
    rw [List.getElem?_map, hx] at hy
    cases hy
    have := List.sizeOf_lt_of_mem (List.mem_of_getElem? hx)
    exact sr_frz σ σ2 x
  | .ps es =>
    rw [frz_ps]
    refine SR.ps_map es fun x hx j y hy => ?_
    have h1 := List.sizeOf_lt_of_mem hx
    have h2 := mem_cells_sz hy
    exact sr_frz σ σ2 y
  | .lg i es =>
    rw [frz_lg]
    refine .lg i es _ (SR.ps_map es fun x hx j y hy => ?_)
    have h1 := List.sizeOf_lt_of_mem hx
    have h2 := mem_cells_sz hy
    exact sr_frz σ σ2 y
  | .ifc t a =>
    rw [frz_ifc]
    exact .ifc t a _ (sr_frz σ σ2 a)
  | .c v => rw [frz_c]; exact .refl _
  | .junk => rw [frz_junk]; exact .refl _
  | .fs l => rw [frz_fs]; exact .refl _
  | .pp l => rw [frz_pp]; exact .refl _
  | .rs i g o n => rw [frz_rs]; exact .refl _
  | .rc i g o n c => rw [frz_rc]; exact .refl _
  | .rp i g k o => rw [frz_rp]; exact .refl _
  | .mp i => rw [frz_mp]; exact .refl _
  | .fn f x y => rw [frz_fn]; exact .refl _
termination_by SizeOf.sizeOf a
decreasing_by all_goals (simp; omega)

/-- The objects of the store as it was are as they were. -/
def Below (σ0 σ : Store) : Prop := σ0.next ≤ σ.next ∧ ∀ i, i < σ0.next → σ.get i = σ0.get i
@[simp] theorem Below.refl (σ : Store) : Below σ σ := ⟨Nat.le_refl _, fun _ _ => rfl⟩
theorem Below.alloc {σ0 σ : Store} (h : Below σ0 σ) (o : AObj) : Below σ0 (σ.alloc o) := ⟨by simp; have := h.1; omega, fun i hi => by simp [show i ≠ σ.next by have := h.1; omega]; exact h.2 i hi⟩
theorem Below.set {σ0 σ : Store} (h : Below σ0 σ) {k : Nat} (hk : σ0.next ≤ k) (o : AObj) : Below σ0 (σ.set k o) := ⟨by simpa using h.1, fun i hi => by simp [show i ≠ k by omega]; exact h.2 i hi⟩
@[simp] theorem Below.alloc' (σ : Store) (o : AObj) : Below σ (σ.alloc o) := (Below.refl σ).alloc o

/-- A row or a pointer of the callee's own, which is dropped from the store: what it holds. -/
def frzT (n : Nat) (σ : Store) : AV → AV
  | .rs i g off len => if n ≤ i then (match σ.get i with
    | some (.arr _ g' es) => if g' = g ∧ off + len ≤ es.length then .ps (frzL ((es.drop off).take len)) else .rs i g off len
    | _ => .rs i g off len) else .rs i g off len
  | .rc i g off len cap => if n ≤ i then (match σ.get i with
    | some (.arr _ g' es) => if g' = g ∧ off + len ≤ es.length then .ps (frzL ((es.drop off).take len)) else .rc i g off len cap
    | _ => .rc i g off len cap) else .rc i g off len cap
  | .rp i g k off => if n ≤ i then (match σ.get i with
    | some (.arr _ g' es) => if g' = g then (match es[k]? with
      | some e => .pp (frzL (e.cells.drop off))
      | none => .rp i g k off) else .rp i g k off
    | _ => .rp i g k off) else .rp i g k off
  | .c v => .c v
  | .junk => .junk
  | .nl => .ps []
  | .agg cs => .agg (frzL cs)
  | .tup cs => .tup (frzL cs)
  | .ps es => .ps (frzL es)
  | .lg _ es => .ps (frzL es)
  | .fs l => .fs l
  | .pp cs => .pp cs
  | .mp i => .mp i
  | .fn f x y => .fn f x y
  | .ifc t a => .ifc t (frz a)
/-- The same for what a tuple or an aggregate holds. -/
def frzU (n : Nat) (σ : Store) : AV → AV
  | .agg cs => .agg (cs.map (frzT n σ))
  | a => frzT n σ a
def frzD (n : Nat) (σ : Store) : AV → AV
  | .tup cs => .tup (cs.map (frzU n σ))
  | a => frzU n σ a
section
variable (n : Nat) (σ : Store)
@[simp] theorem frzT_rs (i g off len : Nat) : frzT n σ (.rs i g off len) = if n ≤ i then (match σ.get i with
    | some (.arr _ g' es) => if g' = g ∧ off + len ≤ es.length then .ps (frzL ((es.drop off).take len)) else .rs i g off len
    | _ => .rs i g off len) else .rs i g off len := by rw [frzT]
@[simp] theorem frzT_rc (i g off len cap : Nat) : frzT n σ (.rc i g off len cap) = if n ≤ i then (match σ.get i with
    | some (.arr _ g' es) => if g' = g ∧ off + len ≤ es.length then .ps (frzL ((es.drop off).take len)) else .rc i g off len cap
    | _ => .rc i g off len cap) else .rc i g off len cap := by rw [frzT]
@[simp] theorem frzT_rp (i g k off : Nat) : frzT n σ (.rp i g k off) = if n ≤ i then (match σ.get i with
    | some (.arr _ g' es) => if g' = g then (match es[k]? with
      | some e => .pp (frzL (e.cells.drop off))
      | none => .rp i g k off) else .rp i g k off
    | _ => .rp i g k off) else .rp i g k off := by rw [frzT]
@[simp] theorem frzT_c (v : Value) : frzT n σ (.c v) = .c v := by rw [frzT]
@[simp] theorem frzT_junk : frzT n σ .junk = .junk := by rw [frzT]
@[simp] theorem frzT_nl : frzT n σ .nl = .ps [] := by rw [frzT]
@[simp] theorem frzT_agg (cs : List AV) : frzT n σ (.agg cs) = .agg (frzL cs) := by rw [frzT]
@[simp] theorem frzT_tup (cs : List AV) : frzT n σ (.tup cs) = .tup (frzL cs) := by rw [frzT]
@[simp] theorem frzT_ps (es : List AV) : frzT n σ (.ps es) = .ps (frzL es) := by rw [frzT]
@[simp] theorem frzT_lg (i : Nat) (es : List AV) : frzT n σ (.lg i es) = .ps (frzL es) := by rw [frzT]
@[simp] theorem frzT_fs (l : List UInt8) : frzT n σ (.fs l) = .fs l := by rw [frzT]
@[simp] theorem frzT_pp (cs : List AV) : frzT n σ (.pp cs) = .pp cs := by rw [frzT]
@[simp] theorem frzT_mp (i : Nat) : frzT n σ (.mp i) = .mp i := by rw [frzT]
@[simp] theorem frzT_fn (f : Fn) (x y : List AV) : frzT n σ (.fn f x y) = .fn f x y := by rw [frzT]
@[simp] theorem frzT_ifc (t : TypeId) (a : AV) : frzT n σ (.ifc t a) = .ifc t (frz a) := by rw [frzT]
@[simp] theorem frzU_agg (cs : List AV) : frzU n σ (.agg cs) = .agg (cs.map (frzT n σ)) := by rw [frzU]
@[simp] theorem frzD_tup (cs : List AV) : frzD n σ (.tup cs) = .tup (cs.map (frzU n σ)) := by rw [frzD]
@[simp] theorem frzD_agg (cs : List AV) : frzD n σ (.agg cs) = .agg (cs.map (frzT n σ)) := by simp [frzD]
section
variable (a : AV)
theorem frzU_eq (h : ∀ cs, a ≠ .agg cs) : frzU n σ a = frzT n σ a := by cases a <;> first | rfl | exact absurd rfl (h _)
theorem frzD_eq (h : ∀ cs, a ≠ .agg cs) (h' : ∀ cs, a ≠ .tup cs) : frzD n σ a = frzT n σ a := by cases a <;> first | rfl | exact absurd rfl (h _) | exact absurd rfl (h' _)
end
@[simp] theorem frzU_rs (i g off len : Nat) : frzU n σ (.rs i g off len) = frzT n σ (.rs i g off len) := rfl
@[simp] theorem frzU_rc (i g off len cap : Nat) : frzU n σ (.rc i g off len cap) = frzT n σ (.rc i g off len cap) := rfl
@[simp] theorem frzU_rp (i g k off : Nat) : frzU n σ (.rp i g k off) = frzT n σ (.rp i g k off) := rfl
@[simp] theorem frzU_c (v : Value) : frzU n σ (.c v) = .c v := by rw [frzU_eq _ _ _ (by simp), frzT]
@[simp] theorem frzU_junk : frzU n σ .junk = .junk := by rw [frzU_eq _ _ _ (by simp), frzT]
@[simp] theorem frzU_nl : frzU n σ .nl = .ps [] := by rw [frzU_eq _ _ _ (by simp), frzT]
@[simp] theorem frzU_tup (cs : List AV) : frzU n σ (.tup cs) = .tup (frzL cs) := by rw [frzU_eq _ _ _ (by simp), frzT]
@[simp] theorem frzU_ps (es : List AV) : frzU n σ (.ps es) = .ps (frzL es) := by rw [frzU_eq _ _ _ (by simp), frzT]
@[simp] theorem frzU_lg (i : Nat) (es : List AV) : frzU n σ (.lg i es) = .ps (frzL es) := by rw [frzU_eq _ _ _ (by simp), frzT]
@[simp] theorem frzU_fs (l : List UInt8) : frzU n σ (.fs l) = .fs l := by rw [frzU_eq _ _ _ (by simp), frzT]
@[simp] theorem frzU_pp (cs : List AV) : frzU n σ (.pp cs) = .pp cs := by rw [frzU_eq _ _ _ (by simp), frzT]
@[simp] theorem frzU_mp (i : Nat) : frzU n σ (.mp i) = .mp i := by rw [frzU_eq _ _ _ (by simp), frzT]
@[simp] theorem frzU_fn (f : Fn) (x y : List AV) : frzU n σ (.fn f x y) = .fn f x y := by rw [frzU_eq _ _ _ (by simp), frzT]
@[simp] theorem frzU_ifc (t : TypeId) (a : AV) : frzU n σ (.ifc t a) = .ifc t (frz a) := by rw [frzU_eq _ _ _ (by simp), frzT]
@[simp] theorem frzD_rs (i g off len : Nat) : frzD n σ (.rs i g off len) = frzT n σ (.rs i g off len) := rfl
@[simp] theorem frzD_rc (i g off len cap : Nat) : frzD n σ (.rc i g off len cap) = frzT n σ (.rc i g off len cap) := rfl
@[simp] theorem frzD_rp (i g k off : Nat) : frzD n σ (.rp i g k off) = frzT n σ (.rp i g k off) := rfl
@[simp] theorem frzD_c (v : Value) : frzD n σ (.c v) = .c v := by rw [frzD_eq _ _ _ (by simp) (by simp), frzT]
@[simp] theorem frzD_junk : frzD n σ .junk = .junk := by rw [frzD_eq _ _ _ (by simp) (by simp), frzT]
@[simp] theorem frzD_nl : frzD n σ .nl = .ps [] := by rw [frzD_eq _ _ _ (by simp) (by simp), frzT]
@[simp] theorem frzD_ps (es : List AV) : frzD n σ (.ps es) = .ps (frzL es) := by rw [frzD_eq _ _ _ (by simp) (by simp), frzT]
@[simp] theorem frzD_lg (i : Nat) (es : List AV) : frzD n σ (.lg i es) = .ps (frzL es) := by rw [frzD_eq _ _ _ (by simp) (by simp), frzT]
@[simp] theorem frzD_fs (l : List UInt8) : frzD n σ (.fs l) = .fs l := by rw [frzD_eq _ _ _ (by simp) (by simp), frzT]
@[simp] theorem frzD_pp (cs : List AV) : frzD n σ (.pp cs) = .pp cs := by rw [frzD_eq _ _ _ (by simp) (by simp), frzT]
@[simp] theorem frzD_mp (i : Nat) : frzD n σ (.mp i) = .mp i := by rw [frzD_eq _ _ _ (by simp) (by simp), frzT]
@[simp] theorem frzD_fn (f : Fn) (x y : List AV) : frzD n σ (.fn f x y) = .fn f x y := by rw [frzD_eq _ _ _ (by simp) (by simp), frzT]
@[simp] theorem frzD_ifc (t : TypeId) (a : AV) : frzD n σ (.ifc t a) = .ifc t (frz a) := by rw [frzD_eq _ _ _ (by simp) (by simp), frzT]
theorem sr_row {σ2 : Store} (hn : ∀ i, n ≤ i → σ2.get i = none) {i g off len : Nat} {T : TypeId} {es : List AV} (hi : n ≤ i) (ho : σ.get i = some (.arr T g es)) (hl : off + len ≤ es.length) : SR σ σ2 (.rs i g off len) (.ps (frzL ((es.drop off).take len))) := by
  have hget : ∀ k (a b : AV), es[off + k]? = some a → (frzL ((es.drop off).take len))[k]? = some b → b = frz a := by
    intro k a b ha hb
    rw [frzL_eq, List.getElem?_map, List.getElem?_take] at hb
    split at hb
    · rw [List.getElem?_drop, ha] at hb
      cases hb; rfl
    · simp at hb
  refine .rs i g off len T es _ ho (hn i hi) hl (by simp [frzL_eq]; omega) (fun k a b ha hb => ?_) (fun k a b j x y ha hb hx hy => ?_)
  · rw [hget k a b ha hb, frz_cells, frzL_eq, List.length_map]
  · rw [hget k a b ha hb, frz_cells, frzL_eq, List.getElem?_map, hx] at hy
    cases hy
    exact sr_frz _ _ _
theorem sr_frzT {σ2 : Store} (hn : ∀ i, n ≤ i → σ2.get i = none) (a : AV) : SR σ σ2 a (frzT n σ a) := by
  cases a
  case rs i g off len =>
    rw [frzT_rs]
    split
    · rename_i hi
      split
      · rename_i T g' es ho
        split
        · rename_i hc
          obtain ⟨rfl, hl⟩ := hc
          exact sr_row n σ hn hi ho hl
        · exact .refl _
      · exact .refl _
    · exact .refl _
  case rc i g off len cap =>
    rw [frzT_rc]
    split
    · rename_i hi
      split
      · rename_i T g' es ho
        split
        · rename_i hc
          obtain ⟨rfl, hl⟩ := hc
          exact .rc _ _ _ _ _ _ (sr_row n σ hn hi ho hl)
        · exact .refl _
      · exact .refl _
    · exact .refl _
  case rp i g k off =>
    rw [frzT_rp]
    split
    · rename_i hi
      split
      · rename_i T g' es ho
        split
        · rename_i hg
          subst hg
          split
          · rename_i e he
            refine .rp i g' k off T es e _ ho (hn i hi) he (by simp [frzL_eq]) fun j x y hx hy => ?_
            rw [frzL_eq, List.getElem?_map, hx] at hy
            cases hy
            exact sr_frz _ _ _
          · exact .refl _
        · exact .refl _
      · exact .refl _
    · exact .refl _
  case c v => rw [frzT_c]; exact .refl _
  case junk => rw [frzT_junk]; exact .refl _
  case fs l => rw [frzT_fs]; exact .refl _
  case pp l => rw [frzT_pp]; exact .refl _
  case mp i => rw [frzT_mp]; exact .refl _
  case fn f x y => rw [frzT_fn]; exact .refl _
  case nl => rw [frzT_nl, ← frz_nl]; exact sr_frz _ _ _
  case agg cs => rw [frzT_agg, ← frz_agg]; exact sr_frz _ _ _
  case tup cs => rw [frzT_tup, ← frz_tup]; exact sr_frz _ _ _
  case ps cs => rw [frzT_ps, ← frz_ps]; exact sr_frz _ _ _
  case lg i cs => rw [frzT_lg, ← frz_lg i]; exact sr_frz _ _ _
  case ifc t a => rw [frzT_ifc, ← frz_ifc]; exact sr_frz _ _ _
theorem sr_frzU {σ2 : Store} (hn : ∀ i, n ≤ i → σ2.get i = none) (a : AV) : SR σ σ2 a (frzU n σ a) := by
  by_cases h : ∃ cs, a = .agg cs
  · obtain ⟨cs, rfl⟩ := h
    rw [frzU_agg]
    refine .agg _ _ (by simp) fun j x y hx hy => ?_
    rw [List.getElem?_map, hx] at hy
    cases hy
    exact sr_frzT n σ hn x
  · rw [frzU_eq n σ a fun cs e => h ⟨cs, e⟩]
    exact sr_frzT n σ hn a
theorem sr_frzD {σ2 : Store} (hn : ∀ i, n ≤ i → σ2.get i = none) (a : AV) : SR σ σ2 a (frzD n σ a) := by
  by_cases h : ∃ cs, a = .tup cs
  · obtain ⟨cs, rfl⟩ := h
    rw [frzD_tup]
    refine .tup _ _ (by simp) fun j x y hx hy => ?_
    rw [List.getElem?_map, hx] at hy
    cases hy
    exact sr_frzU n σ hn x
  · have : frzD n σ a = frzU n σ a := by cases a <;> first | rfl | exact absurd ⟨_, rfl⟩ h
    rw [this]
    exact sr_frzU n σ hn a
end
def leafP (σ0 : Store) (r : AV) (σ : Store) (a : AV) : Prop := frzD σ0.next σ a = r ∧ Below σ0 σ
@[simp] theorem leafP_eq (σ0 : Store) (r : AV) (σ : Store) (a : AV) : leafP σ0 r σ a = (frzD σ0.next σ a = r ∧ Below σ0 σ) := (rfl)
/-- Behind the body of such a function. -/
def retP (E : Env) (rs : List ResultVar) (σ0 : Store) (r : AV) : Kn := fun e f σ => match e with
  | .normal => aRes E rs f σ fun l => leafP σ0 r σ (pack l)
  | .ret => aRes E rs f σ fun l => leafP σ0 r σ (pack l)
  | _ => False
@[simp ↓] theorem retP_ret (E : Env) (rs : List ResultVar) (σ0 : Store) (r : AV) (f : Nat → AV) (σ : Store) : retP E rs σ0 r .ret f σ = aRes E rs f σ fun l => leafP σ0 r σ (pack l) := (rfl)
@[simp ↓] theorem retP_normal (E : Env) (rs : List ResultVar) (σ0 : Store) (r : AV) (f : Nat → AV) (σ : Store) : retP E rs σ0 r .normal f σ = aRes E rs f σ fun l => leafP σ0 r σ (pack l) := (rfl)

def resTmps (rs : List ResultVar) : List Nat := (rs.map fun
  | .tmp t => t
  | .cell t _ => t).foldl (fun l x => insN x l) []

theorem aRes_mono {E : Env} {f : Nat → AV} {σ : Store} : ∀ (rs : List ResultVar) {K K' : List AV → Prop}, (∀ l, K l → K' l) → aRes E rs f σ K → aRes E rs f σ K'
  | [], K, K', h, hk => h _ hk
  | .tmp t :: rs, K, K', h, hk => aRes_mono rs (fun l hl => h _ hl) hk
  | .cell a t :: rs, K, K', h, hk => by
    simp only [aRes] at hk ⊢
    have hd : ∀ v, aRes E rs f σ (fun l => K (v :: l)) → aRes E rs f σ (fun l => K' (v :: l)) := fun v hv => aRes_mono rs (fun l hl => h _ hl) hv
    revert hk
    unfold aLoad aLoadC
    split
    · rintro ⟨h0, hk⟩
      refine ⟨h0, ?_⟩
      split
      · rename_i hA; rw [if_pos hA] at hk; exact ⟨hk.1, hk.2.1, hd _ hk.2.2⟩
      · rename_i hA; rw [if_neg hA] at hk
        split at hk
        · exact hd _ hk
        · exact hk
    · split
      · rintro ⟨hg, hk⟩
        refine ⟨hg, ?_⟩
        split at hk
        · obtain ⟨h0, hk⟩ := hk
          refine ⟨h0, ?_⟩
          split
          · rename_i hA; rw [if_pos hA] at hk; exact ⟨hk.1, hk.2.1, hd _ hk.2.2⟩
          · rename_i hA; rw [if_neg hA] at hk
            split at hk
            · exact hd _ hk
            · exact hk
        · exact hk
      · exact fun h => h
    · exact fun h => h

theorem Pur.enter {E : Env} {k : FuncId} {fn : Func} {c : Code} {args : List AV} {r : AV} {N : Nat} {rs : Array ResultVar} (ow : List Nat) (hf : E.P.funcs[k]? = some fn) (hb : fn.body = some c) (hn : fn.ntmps = N) (hrs : fn.results = rs)
    (hm : E.P.follows .mixedOrders = true) (hd : drawsOk (annot ow (resTmps rs.toList) c [] []) = true) (hN : args.length ≤ N) (hr : ∀ m, Bel m r)
    (h : ∀ σ, StoreBel σ → wpA E σ.next N ow (annot ow (resTmps rs.toList) c [] []) (tf (targs args 0)) σ (retP E rs.toList σ r)) : Pur E k args r := by
  intro σ
  rw [← argF_tf] at h
  refine ACalls.enter hf hb hn hrs hN fun hσ => ?_
  have h1 := wpA_ok hm _ _ _ _ hd (h σ hσ)
  rw [er_annot] at h1
  refine AW.mono h1 ?_
  intro e f σ' hq
  have key : (aRes E rs.toList f σ' fun l => leafP σ r σ' (pack l)) → aRes E rs.toList f σ' fun l => Fin σ.next σ' (pack l) fun a s => a = r ∧ s = σ := by
    refine aRes_mono _ fun l hl => ?_
    obtain ⟨h1, h2, h3⟩ := hl
    exact Fin.back hσ h2 (fun i o ho => by rw [h3 i (hσ i o ho).1]; exact ho) (h1 ▸ sr_frzD _ _ (fun i hi => by cases hg : σ.get i with | none => rfl | some x => have := (hσ i x hg).1; omega) _) (hr _) ⟨rfl, rfl⟩
  cases e <;> first | exact key hq | exact hq.elim

/-- Behind the body of a function with a contract of its own. -/
def retA (E : Env) (rs : List ResultVar) (n : Nat) (Q : AV → Store → Prop) : Kn := fun e f σ => match e with
  | .normal => aRes E rs f σ fun l => Fin n σ (pack l) Q
  | .ret => aRes E rs f σ fun l => Fin n σ (pack l) Q
  | _ => False
@[simp ↓] theorem retA_ret (E : Env) (rs : List ResultVar) (n : Nat) (Q : AV → Store → Prop) (f : Nat → AV) (σ : Store) : retA E rs n Q .ret f σ = aRes E rs f σ fun l => Fin n σ (pack l) Q := (rfl)
@[simp ↓] theorem retA_normal (E : Env) (rs : List ResultVar) (n : Nat) (Q : AV → Store → Prop) (f : Nat → AV) (σ : Store) : retA E rs n Q .normal f σ = aRes E rs f σ fun l => Fin n σ (pack l) Q := (rfl)
theorem ACalls.enterA {E : Env} {k : FuncId} {fn : Func} {c : Code} {args : List AV} {σ : Store} {Q : AV → Store → Prop} {N : Nat} {rs : Array ResultVar} (ow : List Nat) (hf : E.P.funcs[k]? = some fn) (hb : fn.body = some c) (hn : fn.ntmps = N) (hrs : fn.results = rs)
    (hm : E.P.follows .mixedOrders = true) (hd : drawsOk (annot ow (resTmps rs.toList) c [] []) = true) (hN : args.length ≤ N)
    (h : StoreBel σ → wpA E σ.next N ow (annot ow (resTmps rs.toList) c [] []) (tf (targs args 0)) σ (retA E rs.toList σ.next Q)) : ACalls E k args σ Q := by
  refine ACalls.enter hf hb hn hrs hN fun hσ => ?_
  have h1 := wpA_ok hm _ _ _ _ hd (h hσ)
  rw [er_annot, ← argF_tf] at h1
  refine AW.mono h1 ?_
  intro e f σ' hq
  cases e <;> first | exact hq | exact hq.elim
/-- The store is as it was below, the answer names nothing new. -/
theorem Fin.pur {σ0 σ : Store} {a r : AV} {Q : AV → Store → Prop} (hσ : StoreBel σ0) (hr : Bel σ0.next r) (h1 : frz a = r) (h2 : Below σ0 σ) (h : Q r σ0) : Fin σ0.next σ a Q :=
  Fin.back hσ h2.1 (fun i o ho => by rw [h2.2 i (hσ i o ho).1]; exact ho) (h1 ▸ sr_frz _ _ _) hr h

/-- A row of one's own in the answer. -/
theorem Fin.own {σ0 σ : Store} {a r : AV} {Q : AV → Store → Prop} (hσ : StoreBel σ0) (hr : Bel σ0.next r) (h1 : frzD σ0.next σ a = r) (h2 : Below σ0 σ) (h : Q r σ0) : Fin σ0.next σ a Q :=
  Fin.back hσ h2.1 (fun i o ho => by rw [h2.2 i (hσ i o ho).1]; exact ho) (h1 ▸ sr_frzD _ _ (fun i hi => by cases hg : σ0.get i with | none => rfl | some x => have := (hσ i x hg).1; omega) _) hr h

theorem Fin.eqv {σ0 σ : Store} {a r : AV} (hσ : StoreBel σ0) (h1 : frz a = r) (h2 : Below σ0 σ) (hr : Bel σ0.next r) : Fin σ0.next σ a fun a s => a = r ∧ s = σ0 := Fin.pur hσ hr h1 h2 ⟨rfl, rfl⟩

/-- A call of such a function. -/
theorem Pur.call {E : Env} {k : FuncId} {args : List AV} {r : AV} (h : Pur E k args r) {σ : Store} {K : AV → Store → Prop} (hk : K r σ) : ACalls E k args σ K := (h σ).mono fun a s h => by obtain ⟨rfl, rfl⟩ := h; exact hk

/-! ### Loops -/
def ovGet : List (Nat × AV) → Nat → AV → AV
  | [], _, d => d
  | p :: l, t, d => if t = p.1 then p.2 else ovGet l t d
/-- As a loop's head knows it: what a growing row holds is frozen, the row goes on growing. -/
def kz : AV → AV
  | .lg i es => .lg i (frzL es)
  | .nl => .nl
  | a => frz a
@[simp] theorem kz_lg (i : Nat) (es : List AV) : kz (.lg i es) = .lg i (frzL es) := (rfl)
@[simp] theorem kz_nl : kz .nl = .nl := (rfl)
@[simp] theorem kz_c (v : Value) : kz (.c v) = .c v := by show frz _ = _; simp
@[simp] theorem kz_ps (l : List AV) : kz (.ps l) = .ps (frzL l) := by show frz _ = _; simp
@[simp] theorem kz_agg (l : List AV) : kz (.agg l) = .agg (frzL l) := by show frz _ = _; simp
@[simp] theorem kz_tup (l : List AV) : kz (.tup l) = .tup (frzL l) := by show frz _ = _; simp
@[simp] theorem kz_rs (i g o n : Nat) : kz (.rs i g o n) = .rs i g o n := by show frz _ = _; simp
@[simp] theorem kz_rc (i g o n c : Nat) : kz (.rc i g o n c) = .rc i g o n c := by show frz _ = _; simp
@[simp] theorem kz_rp (i g k o : Nat) : kz (.rp i g k o) = .rp i g k o := by show frz _ = _; simp
@[simp] theorem kz_mp (i : Nat) : kz (.mp i) = .mp i := by show frz _ = _; simp
@[simp] theorem kz_pp (l : List AV) : kz (.pp l) = .pp l := by show frz _ = _; simp
@[simp] theorem kz_fn (f : Fn) (a b : List AV) : kz (.fn f a b) = .fn f a b := by show frz _ = _; simp
@[simp] theorem kz_ifc (t : TypeId) (a : AV) : kz (.ifc t a) = .ifc t (frz a) := by show frz _ = _; simp
@[simp] theorem kz_junk : kz .junk = .junk := by show frz _ = _; simp
theorem sr_kz (σ σ2 : Store) (a : AV) : SR σ σ2 a (kz a) := by
  unfold kz
  split
  · rename_i i es
    refine .lgl i es _ (by simp [frzL_eq]) (fun k a b ha hb => ?_) (SR.ps_map es fun x _ j y _ => sr_frz σ σ2 y)
    rw [frzL_eq, List.getElem?_map, ha] at hb
    cases hb
    rw [frz_cells, frzL_eq, List.length_map]
  · exact .refl _
  · exact sr_frz σ σ2 _

/-- A list of variables as a tree. -/
def tL : List (Nat × AV) → Tr
  | [] => .nil
  | p :: l => (tL l).put (path p.1) p.2
@[simp] theorem tL_nil : tL [] = .nil := rfl
@[simp] theorem tL_cons (p : Nat × AV) (l : List (Nat × AV)) : tL (p :: l) = (tL l).put (path p.1) p.2 := rfl
theorem fr_tL : ∀ l : List (Nat × AV), fr l = tf (tL l)
  | [] => rfl
  | p :: l => by
    funext t
    have ih := congrFun (fr_tL l) t
    rw [fr_cons', ih]
    simp only [tf, tL, Tr.get_put]
    by_cases h : t = p.1
    · subst h; simp
    · rw [if_neg h, if_neg fun e => h (path_inj e)]
/-- The variables at a loop's head: those that change, and the others as they were ahead of the loop. -/
def hdL (lv : List Nat) (ov : List (Nat × AV)) (f : Nat → AV) : List (Nat × AV) := lv.map fun t => (t, ovGet ov t (f t))
@[simp] theorem ovGet_nil (t : Nat) (d : AV) : ovGet [] t d = d := rfl
@[simp] theorem ovGet_cons (p : Nat × AV) (l : List (Nat × AV)) (t : Nat) (d : AV) : ovGet (p :: l) t d = if t = p.1 then p.2 else ovGet l t d := rfl
@[simp] theorem hdL_nil (ov : List (Nat × AV)) (f : Nat → AV) : hdL [] ov f = [] := rfl
@[simp] theorem hdL_cons (t : Nat) (lv : List Nat) (ov : List (Nat × AV)) (f : Nat → AV) : hdL (t :: lv) ov f = (t, ovGet ov t (f t)) :: hdL lv ov f := rfl
def KnowsL (N : Nat) (f : Nat → AV) : List (Nat × AV) → Prop
  | [] => True
  | p :: l => (p.1 < N ∧ kz (f p.1) = p.2) ∧ KnowsL N f l
@[simp] theorem KnowsL_nil (N : Nat) (f : Nat → AV) : KnowsL N f [] = True := (rfl)
@[simp] theorem KnowsL_cons (N : Nat) (f : Nat → AV) (p : Nat × AV) (l : List (Nat × AV)) : KnowsL N f (p :: l) = ((p.1 < N ∧ kz (f p.1) = p.2) ∧ KnowsL N f l) := (rfl)
theorem KnowsL.knows {N : Nat} {f : Nat → AV} : ∀ {l : List (Nat × AV)}, KnowsL N f l → ∀ p ∈ l, p.1 < N ∧ kz (f p.1) = p.2
  | [], _ => fun p hp => by simp at hp
  | q :: l, h => fun p hp => by
    rcases List.mem_cons.1 hp with rfl | hp
    · exact h.1
    · exact h.2.knows p hp
/-- Everything that is known of these variables lies below m. -/
def BelL (m : Nat) : List (Nat × AV) → Prop
  | [] => True
  | p :: l => Bel m p.2 ∧ BelL m l
@[simp] theorem BelL_nil (m : Nat) : BelL m [] = True := (rfl)
@[simp] theorem BelL_cons (m : Nat) (p : Nat × AV) (l : List (Nat × AV)) : BelL m (p :: l) = (Bel m p.2 ∧ BelL m l) := (rfl)
theorem BelL.mem {m : Nat} : ∀ {l : List (Nat × AV)}, BelL m l → ∀ p ∈ l, Bel m p.2
  | [], _, p, hp => by simp at hp
  | q :: l, h, p, hp => by
    rcases List.mem_cons.1 hp with rfl | hp
    · exact h.1
    · exact h.2.mem p hp
theorem Below.forget {n : Nat} {s σ : Store} (h : Below s σ) (hn : n ≤ s.next) (hb : StoreBel s) : Forget n σ s :=
  ⟨hn, h.1, fun i o ho => by rw [h.2 i (hb i o ho).1]; exact ho, .inr hb⟩
theorem StoreBel.alloc_log {σ : Store} (h : StoreBel σ) (T : TypeId) (n : Nat) : StoreBel (σ.alloc (.log T n)) := by
  intro i o ho
  simp only [alloc_get] at ho
  split at ho
  · rename_i e; subst e; cases ho; exact ⟨by simp, trivial⟩
  · obtain ⟨h1, h2⟩ := h i o ho
    refine ⟨by simp; omega, ?_⟩
    cases o with
    | arr T g es => exact fun e he x hx => (h2 e he x hx).mono (by simp)
    | map ents born clock => exact fun e he => (h2 e he).mono (by simp)
    | log T n => trivial
    | lp b L => trivial
    | it o => trivial
    | mi m since seen last => exact Nat.lt_of_lt_of_le h2 (by simp)
theorem StoreBel.alloc_arr {σ : Store} (h : StoreBel σ) {T : TypeId} {g : Nat} {es : List AV} (hes : ∀ e ∈ es, ∀ x ∈ e.cells, Bel (σ.next + 1) x) : StoreBel (σ.alloc (.arr T g es)) := by
  intro i o ho
  simp only [alloc_get] at ho
  split at ho
  · rename_i e; subst e; cases ho; exact ⟨by simp, fun e he x hx => hes e he x hx⟩
  · obtain ⟨h1, h2⟩ := h i o ho
    refine ⟨by simp; omega, ?_⟩
    cases o with
    | arr T g es => exact fun e he x hx => (h2 e he x hx).mono (by simp)
    | map ents born clock => exact fun e he => (h2 e he).mono (by simp)
    | log T n => trivial
    | lp b L => trivial
    | it o => trivial
    | mi m since seen last => exact Nat.lt_of_lt_of_le h2 (by simp)
/-- Behind a round: these variables, this store (what was made beside it is forgotten). -/
def roundK (N : Nat) (L : List (Nat × AV)) (s : Store) (p : Prop) (Q : Kn) : Kn := fun e f σ => match e with
  | .normal => Below s σ ∧ KnowsL N f L ∧ p
  | e => Q e f σ
@[simp ↓] theorem roundK_normal (N : Nat) (L : List (Nat × AV)) (s : Store) (p : Prop) (Q : Kn) (f : Nat → AV) (σ : Store) : roundK N L s p Q .normal f σ = (Below s σ ∧ KnowsL N f L ∧ p) := (rfl)
@[simp ↓] theorem roundK_exit (N : Nat) (L : List (Nat × AV)) (s : Store) (p : Prop) (Q : Kn) (i : Nat) (f : Nat → AV) (σ : Store) : roundK N L s p Q (.exit i) f σ = Q (.exit i) f σ := (rfl)
@[simp ↓] theorem roundK_ret (N : Nat) (L : List (Nat × AV)) (s : Store) (p : Prop) (Q : Kn) (f : Nat → AV) (σ : Store) : roundK N L s p Q .ret f σ = Q .ret f σ := (rfl)

section
variable {E : Env} {n N : Nat} {ow lv : List Nat} {c : ACode} {f : Nat → AV} {σ : Store} {Q : Kn}
theorem loop_x {ι : Type} (hm : E.P.follows .mixedOrders = true) (hd : drawsOk c = true) (nx : ι → ι) (x0 : ι) (ov : ι → List (Nat × AV)) (S : ι → Store) (P : ι → Prop) (μ : ι → Nat)
    (hP : P x0) (hS : ∀ x, P x → n ≤ (S x).next ∧ StoreBel (S x) ∧ BelL (S x).next (hdL lv (ov x) f)) (hσ : Below (S x0) σ) (hf : KnowsL N f (hdL lv (ov x0) f))
    (round : ∀ x, P x → wpA E n N ow c (tf (tL (hdL lv (ov x) f))) (S x) (roundK N (hdL lv (ov (nx x)) f) (S (nx x)) (P (nx x) ∧ μ (nx x) < μ x) Q)) : loopW E n N ow lv c f σ Q := by
  have kw : ∀ x f' σ', P x → Below (S x) σ' → KnowsL N f' (hdL lv (ov x) f) → KnowsW n N f' σ' (hdL lv (ov x) f) (S x) := fun x f' σ' hx h1 h2 => by
    obtain ⟨a1, a2, a3⟩ := hS x hx
    refine ⟨h1.forget a1 a2, fun p hp => ⟨(h2.knows p hp).1, (h2.knows p hp).2 ▸ sr_kz _ _ _, .inr (a3.mem p hp)⟩⟩
  refine AW.loopW (fun x => hdL lv (ov x) f) S P μ x0 hP (kw x0 f σ hP hσ hf) fun x hx => ?_
  rw [fr_tL]
  refine AW.mono (wpA_ok hm _ _ _ _ hd (round x hx)) ?_
  intro e f' σ' h
  cases e <;> first | exact h | skip
  obtain ⟨h1, h2, h3, h4⟩ := h
  exact ⟨nx x, h3, kw _ f' σ' h3 h1 h2, h4⟩
/-- A loop that counts and leaves the store as it was ahead of it. -/
theorem loop_n (hm : E.P.follows .mixedOrders = true) (hd : drawsOk c = true) (m : Nat) (ov : Nat → List (Nat × AV)) (P : Nat → Prop) (hn : n ≤ σ.next) (hb : StoreBel σ)
    (hP : P 0) (hB : ∀ x, P x → BelL σ.next (hdL lv (ov x) f)) (hf : KnowsL N f (hdL lv (ov 0) f))
    (round : ∀ x, P x → wpA E n N ow c (tf (tL (hdL lv (ov x) f))) σ (roundK N (hdL lv (ov (x + 1)) f) σ (P (x + 1) ∧ m - (x + 1) < m - x) Q)) : loopW E n N ow lv c f σ Q :=
  loop_x hm hd (· + 1) 0 ov (fun _ => σ) P (fun x => m - x) hP (fun x hx => ⟨hn, hb, hB x hx⟩) (Below.refl σ) hf round
end
end Go.AW
