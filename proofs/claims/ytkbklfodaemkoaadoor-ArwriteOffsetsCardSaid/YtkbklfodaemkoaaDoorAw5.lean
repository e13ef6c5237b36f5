/- Operations that make variables, structs and slices, take addresses, fields and elements, and cut. No condition. -/
import Derived.Test.YtkbklfodaemkoaaDoorAw4
set_option linter.unusedVariables false
set_option linter.unusedSimpArgs false
set_option linter.unnecessarySimpa false
namespace Go.AW
open Go

theorem grown_push (w : World) (o : Obj) : w.grownBy { w with heap := w.heap.push o } none :=
  ⟨rfl, rfl, rfl, by simp, fun k hk _ => by show (w.heap.push o)[k]? = _; rw [Array.getElem?_push, if_neg (by omega)]⟩

theorem heap_push_new (w : World) (o : Obj) : ({ w with heap := w.heap.push o } : World).heap[w.heap.size]? = some o := by simp

/-- A step after which the same objects lie at the same places. -/
theorem R.same_ctx {E : Env} {Γ : Ctx} {σ : Store} {w w' : World} (h : R E Γ σ w) (hg : w.grownBy w' none) : ExtN Γ.next Γ w Γ w' ∧ R E Γ σ w' := by
  have hx : ExtN Γ.next Γ w Γ w' := ⟨hg.os, hg.tape, hg.output, hg.size, fun b hb ho => ⟨.inl (hg.block b hb (by simp)), ho⟩, fun b k hb hf => ⟨fun v hv => by rw [World.cell?_of_block (w := w) (hg.block b hb (by simp))]; exact hv, hf⟩, fun i l hi hl => ⟨l, hl, Nat.le_refl _, fun _ => rfl⟩, Nat.le_refl _, Nat.le_refl _, rfl⟩
  refine ⟨hx, ⟨h.next, h.dom, h.bnd, h.inj, ?_, fun g cs hg => (h.glob g cs hg).ext hx, h.gbel, Nat.le_trans h.base hg.size, h.lims⟩⟩
  intro j oj lj hoj hlj
  have hr := h.objs j oj lj hoj hlj
  have hsame : ∀ b, lj.blk = some b → w'.heap[b]? = w.heap[b]? := fun b hb => hg.block b (h.blk_lt ⟨j, lj, hlj, hb⟩) (by simp)
  cases oj with
  | arr T g es =>
    simp only [ObjRel] at hr ⊢
    obtain ⟨h1, h2, h3, h4, h5, h6⟩ := hr
    refine ⟨h1, h2, h3, h4, h5, ?_⟩
    cases hb : lj.blk with
    | none => simp only [hb] at h6 ⊢; exact h6
    | some b =>
      simp only [hb] at h6 ⊢
      obtain ⟨xs, fr, q1, q2, q3, q4⟩ := h6
      refine ⟨xs, fr, (hsame b hb).trans q1, q2, q3, fun k e j x hk hj => ?_⟩
      obtain ⟨u, u1, u2, u3⟩ := q4 k e j x hk hj
      exact ⟨u, u1, u2, u3.ext hx⟩
  | map ents born clock =>
    obtain ⟨h0, b, es, q1, q2, q3, q4, q5⟩ := hr
    exact ⟨h0, b, es, q1, (hsame b q1).trans q2, q3, fun k e en hk hen => ⟨(q4 k e en hk hen).1, (q4 k e en hk hen).2.ext hx⟩, q5⟩
  | lp b L =>
    obtain ⟨h0, q1, q2⟩ := hr
    exact ⟨h0, q1, (hsame b q1).trans q2⟩
  | it o =>
    obtain ⟨h0, b, q1, q2, q3⟩ := hr
    exact ⟨h0, b, q1, (hsame b q1).trans q2, q3⟩
  | mi m since seen last =>
    obtain ⟨h0, b, bm, q1, q2, q3⟩ := hr
    exact ⟨h0, b, bm, q1, (hsame b q1).trans q2, q3.ext hx⟩
  | log T m =>
    simp only [ObjRel] at hr ⊢
    obtain ⟨h1, h2, h3, h4, h5⟩ := hr
    refine ⟨h1, h2, h3, h4, ?_⟩
    cases hb : lj.blk with
    | none => simp only [hb] at h5 ⊢; exact h5
    | some b =>
      simp only [hb] at h5 ⊢
      obtain ⟨xs, fr, q1, q2⟩ := h5
      exact ⟨xs, fr, (hsame b hb).trans q1, q2⟩

theorem VR.pp_drop {Γ : Ctx} {w : World} {cs : List AV} {b o : Nat} (n : Nat) (hb : ∀ j, j < cs.length → Γ.fixd b (o + j)) (hlt : b < w.heap.size) (h : CellsAt Γ w b o cs) : VR Γ w (.pp (cs.drop n)) (.pointer (some ⟨b, o + n, none⟩)) :=
  VR.pp_of (fun j hj => by rw [List.length_drop] at hj; have := hb (n + j) (by omega); rwa [← Nat.add_assoc] at this) hlt (h.drop n)
/-- A row that only grows, as it is read. -/
def AV.rd : AV → AV
  | .lg _ es => .ps es
  | a => a
theorem VR.rd {Γ : Ctx} {w : World} {a : AV} {v : Value} (h : VR Γ w a v) : VR Γ w a.rd v := by
  unfold AV.rd
  split
  · cases h; assumption
  · exact h

mutual
/-- As a function's caller or callee knows it: a slice without room is an empty row, a row that only grows is a row that is read. -/
def frz : AV → AV
  | .nl => .ps []
  | .ps es => .ps (frzL es)
  | .lg _ es => .ps (frzL es)
  | .agg cs => .agg (frzL cs)
  | .tup cs => .tup (frzL cs)
  | .ifc t a => .ifc t (frz a)
  | a => a
def frzL : List AV → List AV
  | [] => []
  | a :: l => frz a :: frzL l
end
@[simp] theorem frz_nl : frz .nl = .ps [] := by rw [frz]
@[simp] theorem frz_c (v : Value) : frz (.c v) = .c v := by rw [frz]; all_goals (intros; contradiction)
@[simp] theorem frz_junk : frz .junk = .junk := by rw [frz]; all_goals (intros; contradiction)
@[simp] theorem frz_fs (l : List UInt8) : frz (.fs l) = .fs l := by rw [frz]; all_goals (intros; contradiction)
@[simp] theorem frz_pp (l : List AV) : frz (.pp l) = .pp l := by rw [frz]; all_goals (intros; contradiction)
@[simp] theorem frz_rs (i g o n : Nat) : frz (.rs i g o n) = .rs i g o n := by rw [frz]; all_goals (intros; contradiction)
@[simp] theorem frz_rc (i g o n c : Nat) : frz (.rc i g o n c) = .rc i g o n c := by rw [frz]; all_goals (intros; contradiction)
@[simp] theorem frz_rp (i g k o : Nat) : frz (.rp i g k o) = .rp i g k o := by rw [frz]; all_goals (intros; contradiction)
@[simp] theorem frz_mp (i : Nat) : frz (.mp i) = .mp i := by rw [frz]; all_goals (intros; contradiction)
@[simp] theorem frz_fn (f : Fn) (a b : List AV) : frz (.fn f a b) = .fn f a b := by rw [frz]; all_goals (intros; contradiction)
@[simp] theorem frz_ps (l : List AV) : frz (.ps l) = .ps (frzL l) := by rw [frz]
@[simp] theorem frz_lg (i : Nat) (l : List AV) : frz (.lg i l) = .ps (frzL l) := by rw [frz]
@[simp] theorem frz_agg (l : List AV) : frz (.agg l) = .agg (frzL l) := by rw [frz]
@[simp] theorem frz_tup (l : List AV) : frz (.tup l) = .tup (frzL l) := by rw [frz]
@[simp] theorem frz_ifc (t : TypeId) (a : AV) : frz (.ifc t a) = .ifc t (frz a) := by rw [frz]
@[simp] theorem frzL_nil : frzL [] = [] := by rw [frzL]
@[simp] theorem frzL_cons (a : AV) (l : List AV) : frzL (a :: l) = frz a :: frzL l := by rw [frzL]
theorem frzL_eq : ∀ l : List AV, frzL l = l.map frz
  | [] => by rw [frzL]; rfl
  | a :: l => by rw [frzL, frzL_eq l]; rfl
@[simp] theorem frzL_map {α : Type} (f : α → AV) (l : List α) : frzL (l.map f) = l.map fun x => frz (f x) := by rw [frzL_eq, List.map_map]; rfl
@[simp] theorem frzL_append (a b : List AV) : frzL (a ++ b) = frzL a ++ frzL b := by simp [frzL_eq]
@[simp] theorem frzL_replicate (n : Nat) (a : AV) : frzL (List.replicate n a) = List.replicate n (frz a) := by simp [frzL_eq]
theorem frz_cells (a : AV) : (frz a).cells = frzL a.cells := by cases a <;> simp [AV.cells]

theorem VR.frz {Γ : Ctx} {w : World} {a : AV} {v : Value} (h : VR Γ w a v) : VR Γ w (AW.frz a) v := by
  induction h with
  | c v h => rw [frz_c]; exact .c v h
  | junk v => rw [frz_junk]; exact .junk v
  | nl a => rw [frz_nl]; exact .ps [] a 0 0 0 (fun _ _ => Go.undef) (Nat.le_refl 0) (fun h => absurd rfl h) (by intro k e j x hk; simp at hk) (by intro k e j x hk; simp at hk) (by intro k e j x hk; simp at hk)
  | agg cs xs hs h1 _ ih =>
    rw [frz_agg, frzL_eq]
    refine .agg _ xs (by simpa using hs) h1 fun j a x ha hx => ?_
    rw [List.getElem?_map, Option.map_eq_some_iff] at ha
    obtain ⟨b, hb, rfl⟩ := ha
    exact ih j b x hb hx
  | tup cs xs hs _ ih =>
    rw [frz_tup, frzL_eq]
    refine .tup _ xs (by simpa using hs) fun j a x ha hx => ?_
    rw [List.getElem?_map, Option.map_eq_some_iff] at ha
    obtain ⟨b, hb, rfl⟩ := ha
    exact ih j b x hb hx
  | ps es a cap b o us hc ha hw h1 _ ih =>
    rw [frz_ps, frzL_eq]
    have key : ∀ (k : Nat) (e : AV) (j : Nat) (x : AV), (es.map AW.frz)[k]? = some e → e.cells[j]? = some x → ∃ e0 x0, es[k]? = some e0 ∧ e0.cells[j]? = some x0 ∧ x = AW.frz x0 ∧ e.cells.length = e0.cells.length := by
      intro k e j x hk hj
      rw [List.getElem?_map, Option.map_eq_some_iff] at hk
      obtain ⟨e0, h0, rfl⟩ := hk
      rw [frz_cells, frzL_eq, List.getElem?_map, Option.map_eq_some_iff] at hj
      obtain ⟨x0, hx0, rfl⟩ := hj
      exact ⟨e0, x0, h0, hx0, rfl, by rw [frz_cells, frzL_eq, List.length_map]⟩
    have := VR.ps (Γ := Γ) (w := w) (es.map AW.frz) a cap b o us (by simpa using hc) (fun hne => ha (by intro e; subst e; simp at hne)) (fun k e j x hk hj => by
      obtain ⟨e0, x0, h0, hx0, rfl, hl⟩ := key k e j x hk hj
      rw [hl]; exact hw k e0 j x0 h0 hx0) (fun k e j x hk hj => by
      obtain ⟨e0, x0, h0, hx0, rfl, hl⟩ := key k e j x hk hj
      exact h1 k e0 j x0 h0 hx0) (fun k e j x hk hj => by
      obtain ⟨e0, x0, h0, hx0, rfl, hl⟩ := key k e j x hk hj
      exact ih k e0 j x0 h0 hx0)
    simpa using this
  | fs l b cap hb hc hh => rw [frz_fs]; exact .fs l b cap hb hc hh
  | pp cs b o us hb hw h1 h _ => rw [frz_pp]; exact .pp cs b o us hb hw h1 h
  | rs i g off len a cap hi hl h => rw [frz_rs]; exact .rs i g off len a cap hi hl h
  | rc i g off len cap a hi hl h => rw [frz_rc]; exact .rc i g off len cap a hi hl h
  | lg i es v _ _ _ ih1 _ => rw [frz_lg]; rw [frz_ps] at ih1; exact ih1
  | rp i g k off a hi h => rw [frz_rp]; exact .rp i g k off a hi h
  | mp i r hi h => rw [frz_mp]; exact .mp i r hi h
  | fn f first cap xs ys hx hy h h' _ _ => rw [frz_fn]; exact .fn f first cap xs ys hx hy h h'
  | ifc t a v _ ih => rw [frz_ifc]; exact .ifc t _ v ih

/-! ### A new variable -/
def aBox (E : Env) (t : TypeId) (x : AV) (σ : Store) (K : AV → Store → Prop) : Prop :=
  x.ok = true ∧ tsz E.P t = x.cells.length ∧ K (.rp σ.next 0 0 0) (σ.alloc (.arr t 0 [x]))

theorem aBox_ok {E : Env} {Γ : Ctx} {σ : Store} {w : World} {t : TypeId} {x : AV} {xv : Value} {K : AV → Store → Prop} (hr : R E Γ σ w) (hx : VR Γ w x xv) (h : aBox E t x σ K) :
    Up E Γ w K ((do pure (.value (← Instr.box t xv)) : Sem Next).run E.P w) := by
  obtain ⟨hok, hsz, h⟩ := h
  obtain ⟨c1, c2, c3⟩ := hx.cells hok
  refine Up.value (v := .pointer (some ⟨w.heap.size, 0, none⟩)) (w' := { w with heap := w.heap.push (.cells xv.cells t) }) (by simp [Instr.box, newVar, newRow]) ?_
  have key : ∀ (hx : ExtN Γ.next Γ w (Γ.alloc ⟨some w.heap.size, tsz E.P t, 1, 0, none⟩) { w with heap := w.heap.push (.cells xv.cells t) }),
      ObjRel E.P (Γ.alloc ⟨some w.heap.size, tsz E.P t, 1, 0, none⟩) { w with heap := w.heap.push (.cells xv.cells t) } (.arr t 0 [x]) ⟨some w.heap.size, tsz E.P t, 1, 0, none⟩ := by
    intro hx
    refine ⟨rfl, rfl, by simpa using hsz.symm, by simp, by simp [maxLen], xv.cells, (0, 0), by simp, .inl rfl, by simp [c1, hsz], ?_⟩
    intro k e j y hk hj
    cases k with
    | zero =>
      simp at hk; subst hk
      have hlt : j < xv.cells.size := by rw [← c1]; exact (List.getElem?_eq_some_iff.1 hj).1
      refine ⟨xv.cells[j], by simp [hlt], c2 _ (Array.getElem_mem hlt), (c3 j y _ hj (Array.getElem?_eq_getElem hlt)).ext hx⟩
    | succ k => simp at hk
  obtain ⟨hx', hR⟩ := hr.new (grown_push w _) (.inr ⟨_, rfl, Nat.le_refl _⟩) rfl key
  refine ⟨_, _, _, hx', hR, ?_, h⟩
  refine .rp σ.next 0 0 0 _ (by simp [Ctx.alloc, hr.next]) ?_
  intro l hl
  simp [Ctx.alloc, hr.next] at hl
  subst hl
  exact ⟨Nat.le_refl _, fun _ => ⟨w.heap.size, rfl, by simp⟩⟩

/-- The zero value of a type. -/
def azero (P : Program) (t : TypeId) : AV :=
  match tzero P t with
  | some z => AV.ofV z
  | none => .junk

theorem run_azero {E : Env} {Γ : Ctx} {t : TypeId} {w : World} (h : (azero E.P t).ok = true) : ∃ z, (zeroValue t).run E.P w = .ok z w ∧ VR Γ w (azero E.P t) z := by
  unfold azero tzero at *
  cases hi : E.P.info? t with
  | none => simp [hi, AV.ok] at h
  | some i =>
    cases hz : i.zero with
    | none => simp [hi, hz, AV.ok] at h
    | some z => exact ⟨z, by simp [zeroValue, typeInfo, hi, hz], by simpa [hi, hz] using VR.ofV Γ w z⟩

def aAlloc (E : Env) (t : TypeId) (σ : Store) (K : AV → Store → Prop) : Prop := aBox E t (azero E.P t) σ K

theorem aAlloc_ok {E : Env} {Γ : Ctx} {σ : Store} {w : World} {t : TypeId} {K : AV → Store → Prop} (hr : R E Γ σ w) (h : aAlloc E t σ K) :
    Up E Γ w K ((do pure (.value (← Instr.alloc t true (.tuple #[]))) : Sem Next).run E.P w) := by
  obtain ⟨z, hz, hv⟩ := run_azero (Γ := Γ) (w := w) h.1
  have := aBox_ok hr hv h
  simpa [Instr.alloc, Instr.box, hz] using this

/-! ### Addresses of fields and elements -/
def aFieldAddr (E : Env) (t : TypeId) (x : AV) (i : Nat) (K : AV → Prop) : Prop :=
  match fld E.P t i with
  | some (o, _) => (match x with
    | .pp cs => K (.pp (cs.drop o))
    | .rp i g k off => K (.rp i g k (off + o))
    | _ => False)
  | none => False

theorem aFieldAddr_ok {E : Env} {Γ : Ctx} {σ : Store} {w : World} {t : TypeId} {x : AV} {xv : Value} {i : Nat} {K : AV → Store → Prop} (hr : R E Γ σ w) (hx : VR Γ w x xv) (h : aFieldAddr E t x i fun a => K a σ) :
    Up E Γ w K ((do pure (.value (← Instr.fieldAt t xv i)) : Sem Next).run E.P w) := by
  unfold aFieldAddr at h
  split at h
  · rename_i o ty hf
    unfold fld at hf
    split at hf
    · rename_i fs hu
      cases hfi : fs[i]? with
      | none => simp [hfi] at hf
      | some f =>
        simp only [hfi, Option.bind_some] at hf
        split at hf
        · cases hf
        · rename_i hn
          cases hf
          have hs : (sizeOf f.type).run E.P w = .ok (tsz E.P f.type) w := run_tsz hn w
          have hnz : tsz E.P f.type ≠ 0 := hn
          have hfp : ∀ b o, (fieldPlace ⟨b, o, none⟩ f).run E.P w = .ok ⟨b, o + f.offset, none⟩ w := by
            intro b o
            simp [fieldPlace, hs, hnz, addr_add]
          split at h
          · obtain ⟨b, o, rfl, h1, h2, h3⟩ := hx.pp_cells
            refine Up.value (v := .pointer (some ⟨b, o + f.offset, none⟩)) (w' := w) ?_ (Res.same hr (VR.pp_drop _ h1 h2 h3) h)
            simp [Instr.fieldAt, run_underlying hu, hfi, Instr.sureAddr, hfp]
          · rename_i ii gg kk oo
            cases hx with
            | rp _ _ _ _ a hi ha =>
              obtain ⟨b, o, s⟩ := a
              by_cases hsn : s = none
              · subst hsn
                refine Up.value (v := .pointer (some ⟨b, o + f.offset, none⟩)) (w' := w) ?_ (Res.same hr (.rp ii gg kk (oo + f.offset) _ hi ?_) h)
                · simp [Instr.fieldAt, run_underlying hu, hfi, Instr.sureAddr, hfp]
                · intro l hl
                  refine ⟨(ha l hl).1, fun e => ?_⟩
                  obtain ⟨b', hb', hab⟩ := (ha l hl).2 e
                  cases hab
                  exact ⟨b, hb', by rw [Nat.add_assoc]⟩
              · -- a stale pointer
                refine Up.value (v := .pointer (some ((⟨b, o, s⟩ : Addr).add f.offset))) (w' := w) ?_ (Res.same hr (.rp ii gg kk (oo + f.offset) _ hi ?_) h)
                · simp [Instr.fieldAt, run_underlying hu, hfi, Instr.sureAddr, fieldPlace, hs, hnz]
                · intro l hl
                  refine ⟨(ha l hl).1, fun e => ?_⟩
                  obtain ⟨b', hb', hab⟩ := (ha l hl).2 e
                  cases hab
                  exact absurd rfl hsn
          · exact h.elim
    · cases hf
  · exact h.elim

def aIndexAddr (E : Env) (t : TypeId) (x i : AV) (σ : Store) (K : AV → Prop) : Prop :=
  match i with
  | .c (.int _ n) => 0 ≤ n ∧ match tk E.P t, x with
    | .slc e, .ps es => tsz E.P e ≠ 0 ∧ ∃ a, es[n.toNat]? = some a ∧ tsz E.P e = a.cells.length ∧ K (.pp a.cells)
    | .slc e, .rs i g off len => n < len ∧ (match σ.get i with
      | some (.arr T g' _) => g = g' ∧ tsz E.P e ≠ 0 ∧ tsz E.P e = tsz E.P T ∧ K (.rp i g (off + n.toNat) 0)
      | _ => False)
    | .arr m e, .pp cs => n < m ∧ tsz E.P e ≠ 0 ∧ K (.pp (cs.drop (n.toNat * tsz E.P e)))
    | _, _ => False
  | _ => False

theorem tk_slc {P : Program} {t e : TypeId} (h : tk P t = .slc e) : P.underlying t = some (.slice e) := by
  unfold tk at h
  split at h <;> first | cases h | skip
  assumption

theorem tk_str {P : Program} {t : TypeId} (h : tk P t = .str) : P.underlying t = some .string := by
  unfold tk at h
  split at h <;> first | cases h | skip
  assumption
theorem tk_arr {P : Program} {t e : TypeId} {n : Nat} (h : tk P t = .arr n e) : P.underlying t = some (.array n e) := by
  unfold tk at h
  split at h <;> first | cases h | skip
  assumption
theorem tk_int {P : Program} {t : TypeId} {k : IntKind} (h : tk P t = .int k) : P.underlying t = some (.int k) := by
  unfold tk at h
  split at h <;> first | cases h | skip
  assumption
theorem tk_map {P : Program} {t k e : TypeId} (h : tk P t = .map k e) : P.underlying t = some (.map k e) := by
  unfold tk at h
  split at h <;> first | cases h | skip
  assumption

theorem aIndexAddr_ok {E : Env} {Γ : Ctx} {σ : Store} {w : World} {t : TypeId} {x i : AV} {xv iv : Value} {K : AV → Store → Prop} (hr : R E Γ σ w) (hx : VR Γ w x xv) (hi : VR Γ w i iv)
    (h : aIndexAddr E t x i σ fun a => K a σ) : Up E Γ w K ((do pure (.value (← Instr.indexAt t xv iv)) : Sem Next).run E.P w) := by
  unfold aIndexAddr at h
  split at h
  · rename_i kk n
    cases hi
    obtain ⟨h0, h⟩ := h
    split at h
    · rename_i e es ht
      obtain ⟨hnz, a, ha, hsz, h⟩ := h
      have hu := tk_slc ht
      have hs := run_tsz hnz w
      cases hx with
      | ps es ad cap b o us hc ha' hw h1 hv =>
        have hlt := (List.getElem?_eq_some_iff.1 ha).1
        have hne : es ≠ [] := by intro e0; subst e0; simp at hlt
        obtain ⟨rfl, b2⟩ := ha' hne
        have hlt' : n < (es.length : Int) := by omega
        refine Up.value (v := .pointer (some ⟨b, o + n.toNat * tsz E.P e, none⟩)) (w' := w) ?_ (Res.same hr (VR.pp_of (fun j hj => by have := (hw _ _ j _ ha (List.getElem?_eq_getElem hj)).2; rwa [← hsz] at this) b2 ?_) h)
        · simp [Instr.indexAt, asIntOf, run_underlying hu, h0, hlt', hs, addr_add]
        · intro j y hj
          refine ⟨us n.toNat j, ?_, h1 _ _ _ _ ha hj, hv _ _ _ _ ha hj⟩
          have := (hw _ _ _ _ ha hj).1
          rwa [← hsz] at this
    · rename_i e i g off len ht
      obtain ⟨hlt, h⟩ := h
      split at h
      · rename_i T g' es hget
        obtain ⟨rfl, hnz, hsz, h⟩ := h
        have hu := tk_slc ht
        have hs := run_tsz hnz w
        obtain ⟨l, hl, ho, _⟩ := hr.loc hget
        simp only [ObjRel] at ho
        obtain ⟨o1, o2, o3, o4, o5, o6⟩ := ho
        cases hx with
        | rs i g off len ad cap hi hlc hat =>
          have hat' := (hat l hl).2 o1
          unfold Loc.rsAt at hat'
          cases hb : l.blk with
          | none => simp only [hb] at hat'; omega
          | some b =>
            simp only [hb] at hat'
            obtain ⟨a1, a2, a3⟩ := hat'
            have hcap : cap ≠ 0 := by omega
            have had : ad = some ⟨b, off * l.sz, none⟩ := by rcases a2 with a2 | a2; exact absurd a2 hcap; exact a2
            subst had
            have hsz' : tsz E.P e = l.sz := by rw [o2, hsz]; rfl
            refine Up.value (v := .pointer (some ⟨b, off * l.sz + n.toNat * tsz E.P e, none⟩)) (w' := w) ?_ (Res.same hr (.rp i g (off + n.toNat) 0 _ hi ?_) h)
            · simp [Instr.indexAt, asIntOf, run_underlying hu, h0, hlt, hs, addr_add]
            · intro l2 hl2
              rw [hl] at hl2; cases hl2
              refine ⟨by omega, fun _ => ⟨b, hb, ?_⟩⟩
              rw [hsz', Nat.add_mul, Nat.add_zero]
      · exact h.elim
    · rename_i m e cs ht
      obtain ⟨hlt, hnz, h⟩ := h
      have hu := tk_arr ht
      have hs := run_tsz hnz w
      obtain ⟨b, o, rfl, hb1, hb2, hc⟩ := hx.pp_cells
      refine Up.value (v := .pointer (some ⟨b, o + n.toNat * tsz E.P e, none⟩)) (w' := w) ?_ (Res.same hr (VR.pp_drop _ hb1 hb2 hc) h)
      simp [Instr.indexAt, Instr.sureAddr, asIntOf, run_underlying hu, h0, hlt, hs, addr_add]
    · exact h.elim
  · exact h.elim

/-! ### Parts of values -/
def aField (E : Env) (t : TypeId) (x : AV) (i : Nat) (K : AV → Prop) : Prop :=
  match fld E.P t i, x with
  | some (o, ty), .agg cs => aLoadC E.P ty (cs.drop o) K
  | _, _ => False

theorem part_ok {E : Env} {Γ : Ctx} {w : World} {ty : TypeId} {o : Nat} {cs : List AV} {xs : Array Value} {K : AV → Prop} (hx : VR Γ w (.agg cs) (.agg xs)) (h : aLoadC E.P ty (cs.drop o) K) :
    ∃ v a, (part ty xs o).run E.P w = .ok v w ∧ VR Γ w a v ∧ K a := by
  cases hx with
  | agg cs xs hs h1 hv =>
    obtain ⟨ht, h⟩ := h
    have hagg := run_isAgg (P := E.P) ht w
    split at h
    · rename_i hA
      obtain ⟨h0, hle, hk⟩ := h
      have hsz := run_tsz h0 w
      refine ⟨.agg (xs.extract o (o + tsz E.P ty)), _, by simp [part, hagg, hA, hsz], .agg _ _ ?_ ?_ ?_, hk⟩
      · simp at hle ⊢; omega
      · intro j x hj
        rw [Array.getElem?_extract] at hj
        split at hj
        · exact h1 _ _ hj
        · cases hj
      · intro j a x ha hj
        rw [Array.getElem?_extract] at hj
        rw [List.getElem?_take] at ha
        split at hj
        · split at ha
          · rw [List.getElem?_drop] at ha
            exact hv _ _ _ ha hj
          · cases ha
        · cases hj
    · rename_i hA
      cases hd : cs.drop o with
      | nil => rw [hd] at h; exact h.elim
      | cons y ys =>
        rw [hd] at h
        have hy : cs[o]? = some y := by
          have := List.getElem?_drop (xs := cs) (i := o) (j := 0)
          rw [hd] at this; simpa using this.symm
        have hlt : o < xs.size := by rw [← hs]; exact (List.getElem?_eq_some_iff.1 hy).1
        refine ⟨xs[o], y, ?_, hv o y _ hy (Array.getElem?_eq_getElem hlt), h⟩
        simp [part, hagg, hA, hlt]

theorem aField_ok {E : Env} {Γ : Ctx} {σ : Store} {w : World} {t : TypeId} {x : AV} {xv : Value} {i : Nat} {K : AV → Store → Prop} (hr : R E Γ σ w) (hx : VR Γ w x xv) (h : aField E t x i fun a => K a σ) :
    Up E Γ w K ((do pure (.value (← Instr.field t xv i)) : Sem Next).run E.P w) := by
  unfold aField at h
  split at h
  · rename_i o ty cs hf
    unfold fld at hf
    split at hf
    · rename_i fs hu
      cases hfi : fs[i]? with
      | none => simp [hfi] at hf
      | some f =>
        simp only [hfi, Option.bind_some] at hf
        split at hf
        · cases hf
        · cases hf
          obtain ⟨xs, rfl⟩ : ∃ xs, xv = .agg xs := by cases hx; exact ⟨_, rfl⟩
          obtain ⟨v, a, r1, r2, r3⟩ := part_ok hx h
          exact Up.value (v := v) (w' := w) (by simp [Instr.field, run_underlying hu, hfi, asAgg, r1]) (Res.same hr r2 r3)
    · cases hf
  · exact h.elim

/-- The byte at an index. -/
def bAt (s : ByteArray) (n : Int) : Int := ((s.data.toList.getD n.toNat 0).toNat : Int)

def aIndex (E : Env) (t : TypeId) (x i : AV) (K : AV → Prop) : Prop :=
  match i with
  | .c (.int _ n) => 0 ≤ n ∧ match tk E.P t, x with
    | .str, .c (.string s) => n < s.size ∧ K (.c (.int .u8 (bAt s n)))
    | .arr len e, .agg cs => n < len ∧ aLoadC E.P e (cs.drop (n.toNat * tsz E.P e)) K ∧ tsz E.P e ≠ 0
    | _, _ => False
  | _ => False

theorem aIndex_ok {E : Env} {Γ : Ctx} {σ : Store} {w : World} {t : TypeId} {x i : AV} {xv iv : Value} {K : AV → Store → Prop} (hr : R E Γ σ w) (hx : VR Γ w x xv) (hi : VR Γ w i iv)
    (h : aIndex E t x i fun a => K a σ) : Up E Γ w K ((do pure (.value (← Instr.index t xv iv)) : Sem Next).run E.P w) := by
  unfold aIndex at h
  split at h
  · rename_i kk n
    cases hi
    obtain ⟨h0, h⟩ := h
    split at h
    · rename_i s ht
      cases hx
      have hu := tk_str ht
      obtain ⟨hlt, h⟩ := h
      have hlt' : n.toNat < s.size := by omega
      have hb : s[n.toNat]? = some (s[n.toNat]'hlt') := by simp [hlt']
      refine Up.value (v := .int .u8 (bAt s n)) (w' := w) ?_ (Res.same hr (.c _ rfl) h)
      have he : (((s[n.toNat]'hlt').toNat : Nat) : Int) = bAt s n := by
        unfold bAt
        have : s.data.toList[n.toNat]? = some (s[n.toNat]'hlt') := by
          rw [List.getElem?_eq_getElem (by simpa using hlt')]; rfl
        simp [List.getD, this]
      simp [Instr.index, asIntOf, run_underlying hu, h0, hb, he]
    · rename_i len e cs ht
      obtain ⟨hlt, h, hnz⟩ := h
      have hu := tk_arr ht
      obtain ⟨xs, rfl⟩ : ∃ xs, xv = .agg xs := by cases hx; exact ⟨_, rfl⟩
      obtain ⟨v, a, r1, r2, r3⟩ := part_ok hx h
      have hs := run_tsz hnz w
      exact Up.value (v := v) (w' := w) (by simp [Instr.index, asIntOf, run_underlying hu, h0, hlt, hs, r1]) (Res.same hr r2 r3)
    · exact h.elim
  · exact h.elim
end Go.AW
