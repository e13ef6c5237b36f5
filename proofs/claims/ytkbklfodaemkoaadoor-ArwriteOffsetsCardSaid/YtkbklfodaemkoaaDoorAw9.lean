/- One condition for every operation; calls; what a list of operations does. No condition. -/
import Derived.Test.YtkbklfodaemkoaaDoorAw8d
import Derived.Laws.Cover3
set_option linter.unusedVariables false
set_option linter.unusedSimpArgs false
set_option linter.unnecessarySimpa false
namespace Go.AW
open Go

/-! ### Small operations -/
def aUn (op : UnOp) (x : AV) (K : AV → Prop) : Prop :=
  match op, x with
  | .not, .c (.bool b) => K (.c (.bool !b))
  | .neg, .c (.int k n) => K (.c (.int k (k.wrap (0 - n))))
  | _, _ => False

theorem aUn_ok {E : Env} {Γ : Ctx} {σ : Store} {w : World} {op : UnOp} {x : AV} {xv : Value} {K : AV → Store → Prop} (hr : R E Γ σ w) (hx : VR Γ w x xv) (h : aUn op x fun a => K a σ) :
    Up E Γ w K ((do pure (.value (← Op.unary op xv)) : Sem Next).run E.P w) := by
  unfold aUn at h
  split at h
  · cases hx; exact Up.value (w' := w) (by simp [Op.unary]) (Res.same hr (.c _ rfl) h)
  · cases hx; exact Up.value (w' := w) (by simp [Op.unary, Op.intArith]) (Res.same hr (.c _ rfl) h)
  · exact h.elim

def aNil (x : AV) (K : AV → Prop) : Prop :=
  match x with
  | .pp _ => K x
  | .rp .. => K x
  | .ifc .. => K x
  | .fn (.func _) _ _ => K x
  | _ => False

/-- Scalars; pointers and interfaces held against nil. -/
def aBin (E : Env) (op : BinOp) (t : TypeId) (x y : AV) (K : AV → Prop) : Prop :=
  match x, y with
  | .c (.bool p), .c (.bool q) => tk E.P t = .bool ∧ (match op with
    | .eql => K (.c (.bool (p == q)))
    | .neq => K (.c (.bool !(p == q)))
    | _ => False)
  | .c a, .c b => (match binS op a b with
    | some v => K (.c v)
    | none => False)
  | _, _ => False

theorem run_equal_bool' {P : Program} {t : TypeId} (hu : P.underlying t = some .bool) (p q : Bool) (w : World) : (Op.equal t (.bool p) (.bool q)).run P w = .ok (p == q) w := by
  show (Op.equalIn (9999 + 1) t (.bool p) (.bool q)).run P w = _
  generalize 9999 = n
  simp [Op.equalIn, run_underlying hu]

theorem aBin_ok {E : Env} {Γ : Ctx} {σ : Store} {w : World} {op : BinOp} {t : TypeId} {ox oy : Operand} {x y : AV} {xv yv : Value} {K : AV → Store → Prop} (hr : R E Γ σ w) (hx : VR Γ w x xv) (hy : VR Γ w y yv)
    (h : aBin E op t x y fun a => K a σ) : Up E Γ w K ((do pure (.value (← (do eqGuard op t ox oy xv yv; binOp op t xv yv : Sem Value))) : Sem Next).run E.P w) := by
  unfold aBin at h
  split at h
  · rename_i p q
    cases hx; cases hy
    obtain ⟨ht, h⟩ := h
    have hu : E.P.underlying t = some .bool := by
      unfold tk at ht
      split at ht <;> first | cases ht | skip
      assumption
    have he := run_equal_bool' hu p q w
    split at h
    · refine Up.value (w' := w) ?_ (Res.same hr (.c _ rfl) h)
      simp [eqGuard, binOp]
      rw [he]
      rfl
    · refine Up.value (w' := w) ?_ (Res.same hr (.c _ rfl) h)
      simp [eqGuard, binOp]
      rw [he]
      rfl
    · exact h.elim
  · cases hx; cases hy
    split at h
    · rename_i v hv
      have : v.oneCell' = true := by
        unfold binS at hv
        split at hv <;> first
          | (split at hv <;> first | (cases hv; rfl) | cases hv)
          | (cases hv; rfl)
          | cases hv
      exact Up.value (run_binS E.P hv w) (Res.same hr (.c _ this) h)
    · exact h.elim
  · exact h.elim

/-- The literal nil of a slice. -/
def isNil : Operand → Bool
  | .const (.slice none 0 0) => true
  | _ => false

/-- A slice held against nil: one with elements is not nil; of another the answer is not known. -/
def aNilEq (E : Env) (op : BinOp) (t : TypeId) (x : AV) (K : AV → Prop) : Prop :=
  match tk E.P t, op with
  | .slc _, .eql => (match x with
    | .ps (_ :: _) => K (.c (.bool false))
    | .ps [] => ∀ b, K (.c (.bool b))
    | .nl => ∀ b, K (.c (.bool b))
    | .rs .. => ∀ b, K (.c (.bool b))
    | _ => False)
  | .slc _, .neq => (match x with
    | .ps (_ :: _) => K (.c (.bool true))
    | .ps [] => ∀ b, K (.c (.bool b))
    | .nl => ∀ b, K (.c (.bool b))
    | .rs .. => ∀ b, K (.c (.bool b))
    | _ => False)
  | _, _ => False

theorem aNilEq_ok {E : Env} {Γ : Ctx} {σ : Store} {w : World} {op : BinOp} {t : TypeId} {ox oy : Operand} {x : AV} {xv : Value} {K : AV → Store → Prop} (hr : R E Γ σ w) (hx : VR Γ w x xv)
    (h : aNilEq E op t x fun a => K a σ) : Up E Γ w K ((do pure (.value (← (do eqGuard op t ox oy xv (.slice none 0 0); binOp op t xv (.slice none 0 0) : Sem Value))) : Sem Next).run E.P w) := by
  have hsl : ∃ a l c, xv = .slice a l c ∧ ((∃ y ys, x = .ps (y :: ys)) → a.isNone = false) := by
    unfold aNilEq at h
    split at h
    all_goals first | exact h.elim | skip
    all_goals
      split at h <;> first | exact h.elim | skip
    all_goals cases hx
    all_goals refine ⟨_, _, _, rfl, ?_⟩
    all_goals rintro ⟨y, ys, e⟩
    all_goals first
      | (cases e; done)
      | (rename_i hc ha _ _ _; rw [(ha (by simp)).1]; rfl)
  obtain ⟨a, l, c, rfl, hne⟩ := hsl
  unfold aNilEq at h
  split at h
  · rename_i e ht
    have he := run_equal_slice_nil (P := E.P) w t e a l c (tk_slc ht)
    refine Up.value (v := .bool a.isNone) (w' := w) (by simp [eqGuard, binOp, he]) (Res.same hr (.c _ rfl) ?_)
    split at h
    · rw [hne ⟨_, _, rfl⟩]; exact h
    · exact h _
    · exact h _
    · exact h _
    · exact h.elim
  · rename_i e ht
    have he := run_equal_slice_nil (P := E.P) w t e a l c (tk_slc ht)
    refine Up.value (v := .bool !a.isNone) (w' := w) (by simp [eqGuard, binOp, he]) (Res.same hr (.c _ rfl) ?_)
    split at h
    · rw [hne ⟨_, _, rfl⟩]; exact h
    · exact h _
    · exact h _
    · exact h _
    · exact h.elim
  · exact h.elim

/-! ### Calls -/
theorem VRs.append {Γ : Ctx} {w : World} {as bs : List AV} {vs us : List Value} (h : VRs Γ w as vs) (k : VRs Γ w bs us) : VRs Γ w (as ++ bs) (vs ++ us) := by
  refine ⟨by simp [h.1, k.1], fun j a v ha hv => ?_⟩
  by_cases hj : j < as.length
  · rw [List.getElem?_append_left hj] at ha
    rw [List.getElem?_append_left (by have := h.1; omega)] at hv
    exact h.2 j a v ha hv
  · rw [List.getElem?_append_right (by omega)] at ha
    rw [List.getElem?_append_right (by have := h.1; omega), ← h.1] at hv
    exact k.2 _ a v ha hv

def ACalls (E : Env) (f : FuncId) (args : List AV) (σ : Store) (Q : AV → Store → Prop) : Prop :=
  ∀ (Γ : Ctx) (w : World) (vs : Array Value), R E Γ σ w → VRs Γ w args vs.toList → Calls E.P f vs w (Ends E Γ w Q)

theorem ACalls.mono {E : Env} {f : FuncId} {args : List AV} {σ : Store} {Q Q' : AV → Store → Prop} (h : ACalls E f args σ Q) (hq : ∀ a σ', Q a σ' → Q' a σ') : ACalls E f args σ Q' :=
  fun Γ w vs hr hv => (h Γ w vs hr hv).mono fun _ _ he => he.mono hq

def callable (P : Program) (f : FuncId) : Bool :=
  match P.funcs[f]? with
  | some fn => fn.name != "runtime.NumGoroutine" && fn.body.isSome
  | none => false

theorem run_callFunc {P : Program} {f : FuncId} (h : callable P f = true) (args : Array Value) (w : World) : (callFunc f args).run P w = .ok (.enter f args) w := by
  unfold callable at h
  split at h
  · rename_i fn hf
    simp only [Bool.and_eq_true, bne_iff_ne, ne_eq] at h
    simp [callFunc, hf, h.1]
    intro hn
    rw [hn] at h
    simp at h
  · cases h

def aLen (E : Env) (t : TypeId) (x : AV) (σ : Store) (K : AV → Prop) : Prop :=
  match tk E.P t, x with
  | .str, .c (.string s) => K (.c (.int .i64 s.size))
  | .slc _, .ps es => K (.c (.int .i64 es.length))
  | .slc _, .nl => K (.c (.int .i64 0))
  | .slc _, .rs _ _ _ len => K (.c (.int .i64 len))
  | .slc _, .rc _ _ _ len _ => K (.c (.int .i64 len))
  | .map _ _, .c (.map none) => K (.c (.int .i64 0))
  | .map _ _, .mp i => (match σ.get i with
    | some (.map ents _ _) => K (.c (.int .i64 ents.length))
    | _ => False)
  | _, _ => False

theorem aLen_ok {E : Env} {Γ : Ctx} {σ : Store} {w : World} {t ty : TypeId} {x : AV} {xv : Value} {K : AV → Store → Prop} (hr : R E Γ σ w) (hx : VR Γ w x xv) (h : aLen E t x σ fun a => K a σ) :
    ∃ v, (Builtin.len_ #[t] ty #[xv]).run E.P w = .ok v w ∧ Res E Γ w K v w := by
  unfold aLen at h
  split at h
  · rename_i ht; cases hx; exact ⟨_, by simp [Builtin.len_, goInt, run_underlying (tk_str ht)], Res.same hr (.c _ rfl) h⟩
  · rename_i ht; cases hx; exact ⟨_, by simp [Builtin.len_, goInt, run_underlying (tk_slc ht)], Res.same hr (.c _ rfl) h⟩
  · rename_i ht; cases hx; exact ⟨_, by simp [Builtin.len_, goInt, run_underlying (tk_slc ht)], Res.same hr (.c _ rfl) h⟩
  · rename_i ht; cases hx; exact ⟨_, by simp [Builtin.len_, goInt, run_underlying (tk_slc ht)], Res.same hr (.c _ rfl) h⟩
  · rename_i ht; cases hx; exact ⟨_, by simp [Builtin.len_, goInt, run_underlying (tk_slc ht)], Res.same hr (.c _ rfl) h⟩
  · rename_i ht; cases hx; exact ⟨_, by simp [Builtin.len_, goInt, run_underlying (tk_map ht)], Res.same hr (.c _ rfl) h⟩
  · rename_i ht
    split at h
    · rename_i ents _ _ hget
      obtain ⟨l, hl, ho, _⟩ := hr.loc hget
      obtain ⟨h0, b, es, q1, q2, q3, q4, q5⟩ := ho
      cases hx with
      | mp i r hi hm =>
        have hrb := hm l hl h0
        rw [q1] at hrb; cases hrb
        refine ⟨.int .i64 ents.length, ?_, Res.same hr (.c _ rfl) h⟩
        simp [Builtin.len_, goInt, run_underlying (tk_map ht), getObj, Sem.run, q2, q3]
    · exact h.elim
  · exact h.elim

/-- A function of the model's own table. -/
def AExt (E : Env) (k : FuncId) (args : List AV) (σ : Store) (K : AV → Store → Prop) : Prop :=
  ∀ (Γ : Ctx) (w : World) (vs : Array Value), R E Γ σ w → VRs Γ w args vs.toList → ∃ v w', (callFunc k vs).run E.P w = .ok (.value v) w' ∧ Res E Γ w K v w'

/-- How the made row is kept: 0: written no more; 1: the store's; 2: a row that only grows. -/
def ownN (ow : List Nat) (d : Option Tmp) : Nat := match d with
  | some d => if ow.contains d then 1 else if ow.contains (d + 2000000) then 2 else 0
  | none => 0

/-- An argument as the callee knows it; the callees of the list take it as it is. -/
def argV (ow : List Nat) (k : FuncId) (a : AV) : AV := if ow.contains (k + 5000000) then a else frz a
/-- A round of a range over a function: what the call of yield comes to. -/
def AYield (E : Env) (b : Nat) (args : List AV) (σ : Store) (K : AV → Store → Prop) : Prop :=
  ∀ (Γ : Ctx) (w : World) (vs : Array Value), R E Γ σ w → VRs Γ w args vs.toList → ∃ fn tmps assign body, (Instr.yield b vs).run E.P w = .ok (.round b fn tmps assign body) w ∧ RoundIn Fence.wide 0 E.P b fn tmps assign body w (Ends E Γ w K)
theorem AYield.mono {E : Env} {b : Nat} {args : List AV} {σ : Store} {K K' : AV → Store → Prop} (h : AYield E b args σ K) (hk : ∀ a s, K a s → K' a s) : AYield E b args σ K' := by
  intro Γ w vs hr hv
  obtain ⟨fn, tmps, assign, body, h1, h2⟩ := h Γ w vs hr hv
  exact ⟨fn, tmps, assign, body, h1, h2.mono fun _ _ he => he.mono hk⟩
def aCall (E : Env) (ow : List Nat) (own : Nat) (c : Call) (f : Nat → AV) (σ : Store) (K : AV → Store → Prop) : Prop :=
  match c.callee with
  | .value g => (match aeval E.G f g with
    | .fn (.func k) first cap => if callable E.P k = true then ACalls E k (first ++ c.args.toList.map (fun x => argV ow k (aeval E.G f x)) ++ cap) σ K else AExt E k (first ++ c.args.toList.map (aeval E.G f) ++ cap) σ K
    | .fn (.yield b) [] [] => AYield E b (c.args.toList.map fun x => frz (aeval E.G f x)) σ K
    | _ => False)
  | .invoke r m => (match aeval E.G f r with
    | .ifc t v => (match methodOf E.P t m with
      | some k => callable E.P k = true ∧ ACalls E k (v :: c.args.toList.map (fun x => argV ow k (aeval E.G f x))) σ K
      | none => False)
    | _ => False)
  | .builtin .append => (match c.args.toList, c.argTypes.toList with
    | [s, x], [t, u] => aAppend2 E own t u (aeval E.G f s) (aeval E.G f x).rd σ K
    | _, _ => False)
  | .builtin .cap => (match c.args.toList, c.argTypes.toList with
    | [x], [t] => aCap E t (aeval E.G f x) fun a => K a σ
    | _, _ => False)
  | .builtin .copy => (match c.args.toList, c.argTypes.toList with
    | [s, x], [t, u] => aCopy E t (aeval E.G f s) (aeval E.G f x).rd σ K
    | _, _ => False)
  | .builtin .clear => (match c.args.toList, c.argTypes.toList with
    | [x], [t] => aClear E t (aeval E.G f x) σ fun σ' => K (.tup []) σ'
    | _, _ => False)
  | .builtin .len => (match c.args.toList, c.argTypes.toList with
    | [x], [t] => aLen E t (aeval E.G f x).rd σ fun a => K a σ
    | _, _ => False)
  | .builtin .delete => (match c.args.toList, c.argTypes.toList with
    | [m, k], [t, u] => aMapDel E t (aeval E.G f m) (aeval E.G f k) σ K
    | _, _ => False)
  | .builtin .max => (match c.args.toList.map (aeval E.G f) with
    | [.c (.int k a), .c (.int _ b)] => K (.c (.int k (if b > a then b else a))) σ
    | _ => False)
  | .builtin .min => (match c.args.toList.map (aeval E.G f) with
    | [.c (.int k a), .c (.int _ b)] => K (.c (.int k (if b < a then b else a))) σ
    | _ => False)
  | _ => False

theorem toList_two {α : Type} {a : Array α} {x y : α} (h : a.toList = [x, y]) : a = #[x, y] := by cases a; simp_all
theorem toList_one {α : Type} {a : Array α} {x : α} (h : a.toList = [x]) : a = #[x] := by cases a; simp_all

theorem aCall_ok {ow : List Nat} {own : Nat} {E : Env} {Γ : Ctx} {σ : Store} {w : World} {c : Call} {ty : TypeId} {f : Nat → AV} {ρ : Operand → Value} {K : AV → Store → Prop} (hr : R E Γ σ w) (hρ : ∀ x ∈ c.operands, VR Γ w (aeval E.G f x) (ρ x))
    (h : aCall E ow own c f σ K) : Up E Γ w K ((do let d ← resolve ρ c ty; invoke d.target d.args : Sem Next).run E.P w) := by
  have hargs : VRs Γ w (c.args.toList.map (aeval E.G f)) (c.args.map ρ).toList := by
    refine ⟨by simp, fun j a v ha hv => ?_⟩
    rw [List.getElem?_map, Option.map_eq_some_iff] at ha
    obtain ⟨x, hx, rfl⟩ := ha
    simp only [Array.toList_map, List.getElem?_map, hx, Option.map_some, Option.some.injEq] at hv
    subst hv
    refine hρ x ?_
    unfold Call.operands
    exact Array.mem_append.2 (.inr (Array.mem_toList_iff.1 (List.mem_of_getElem? hx)))
  unfold aCall at h
  split at h
  · rename_i g hc
    have hg := hρ g (by unfold Call.operands; rw [hc]; simp)
    split at h
    · rename_i k first cap hfn
      rw [hfn] at hg
      generalize hgv : ρ g = gv at hg
      cases hg with
      | fn _ _ _ xs ys hxs hys h1 h2 =>
        have hv : VRs Γ w (first ++ c.args.toList.map (aeval E.G f) ++ cap) (xs ++ c.args.map ρ ++ ys).toList := by
          have a1 : VRs Γ w first xs.toList := ⟨by simpa using hxs, fun j a v ha hv => h1 j a v ha (by simpa using hv)⟩
          have a2 : VRs Γ w cap ys.toList := ⟨by simpa using hys, fun j a v ha hv => h2 j a v ha (by simpa using hv)⟩
          have := (a1.append hargs).append a2
          simpa using this
        have hv' : VRs Γ w (first ++ c.args.toList.map (fun x => argV ow k (aeval E.G f x)) ++ cap) (xs ++ c.args.map ρ ++ ys).toList := by
          have a1 : VRs Γ w first xs.toList := ⟨by simpa using hxs, fun j a v ha hv => h1 j a v ha (by simpa using hv)⟩
          have a2 : VRs Γ w cap ys.toList := ⟨by simpa using hys, fun j a v ha hv => h2 j a v ha (by simpa using hv)⟩
          have a3 : VRs Γ w (c.args.toList.map fun x => argV ow k (aeval E.G f x)) (c.args.map ρ).toList := by
            refine ⟨by simpa using hargs.1, fun j a v ha hv => ?_⟩
            rw [List.getElem?_map, Option.map_eq_some_iff] at ha
            obtain ⟨x, hx, rfl⟩ := ha
            have := hargs.2 j _ v (by rw [List.getElem?_map, hx]; rfl) hv
            unfold argV
            split
            · exact this
            · exact this.frz
          have := (a1.append a3).append a2
          simpa using this
        split at h
        · rename_i hcall
          have hrc := run_callFunc hcall (xs ++ c.args.map ρ ++ ys) w
          have hb : (do let d ← resolve ρ c ty; invoke d.target d.args : Sem Next).run E.P w = .ok (.enter k (xs ++ c.args.map ρ ++ ys)) w := by
            simp [resolve, hc, hgv, Deferred.ofValue, invoke]
            simpa using hrc
          rw [hb]
          exact h Γ w _ hr hv'
        · obtain ⟨v, w', hrc, hres⟩ := h Γ w _ hr hv
          have hb : (do let d ← resolve ρ c ty; invoke d.target d.args : Sem Next).run E.P w = .ok (.value v) w' := by
            simp [resolve, hc, hgv, Deferred.ofValue, invoke]
            simpa using hrc
          rw [hb]
          exact hres
    · rename_i b hfn
      rw [hfn] at hg
      generalize hgv : ρ g = gv at hg
      cases hg with
      | fn _ _ _ xs ys hxs hys h1 h2 =>
        obtain rfl : xs = #[] := Array.eq_empty_of_size_eq_zero (by simpa using hxs.symm)
        obtain rfl : ys = #[] := Array.eq_empty_of_size_eq_zero (by simpa using hys.symm)
        have hv' : VRs Γ w (c.args.toList.map fun x => frz (aeval E.G f x)) (c.args.map ρ).toList := by
          refine ⟨by simpa using hargs.1, fun j a v ha hv => ?_⟩
          rw [List.getElem?_map, Option.map_eq_some_iff] at ha
          obtain ⟨x, hx, rfl⟩ := ha
          exact (hargs.2 j _ v (by rw [List.getElem?_map, hx]; rfl) hv).frz
        obtain ⟨fn, tmps, assign, body, hy, hround⟩ := h Γ w _ hr hv'
        have hb : (do let d ← resolve ρ c ty; invoke d.target d.args : Sem Next).run E.P w = .ok (.round b fn tmps assign body) w := by
          simp [resolve, hc, hgv, Deferred.ofValue, invoke]
          simpa using hy
        rw [hb]
        exact hround
    · exact h.elim
  · rename_i r m hc
    have hg := hρ r (by unfold Call.operands; rw [hc]; simp)
    split at h
    · rename_i t v hfn
      rw [hfn] at hg
      generalize hgv : ρ r = gv at hg
      cases hg with
      | ifc _ _ u hu =>
        split at h
        · rename_i k hm
          obtain ⟨hcall, h⟩ := h
          have hv' : VRs Γ w (v :: c.args.toList.map fun x => argV ow k (aeval E.G f x)) (#[u] ++ c.args.map ρ).toList := by
            have a1 : VRs Γ w [v] [u] := ⟨rfl, fun j a x ha hx => by
              cases j with
              | zero => cases ha; cases hx; exact hu
              | succ j => simp at ha⟩
            have a3 : VRs Γ w (c.args.toList.map fun x => argV ow k (aeval E.G f x)) (c.args.map ρ).toList := by
              refine ⟨by simpa using hargs.1, fun j a v ha hv => ?_⟩
              rw [List.getElem?_map, Option.map_eq_some_iff] at ha
              obtain ⟨x, hx, rfl⟩ := ha
              have := hargs.2 j _ v (by rw [List.getElem?_map, hx]; rfl) hv
              unfold argV
              split
              · exact this
              · exact this.frz
            have := a1.append a3
            simpa using this
          have hrc := run_callFunc hcall (#[u] ++ c.args.map ρ) w
          have hmeth := run_methodOf hm u w
          have hb : (do let d ← resolve ρ c ty; invoke d.target d.args : Sem Next).run E.P w = .ok (.enter k (#[u] ++ c.args.map ρ)) w := by
            have e1 : (#[Value.iface t u] ++ c.args.map ρ).extract 1 (#[Value.iface t u] ++ c.args.map ρ).size = c.args.map ρ := by
              apply Array.ext'
              simp
              exact List.take_of_length_le (by simp)
            have e2 : (#[Value.iface t u] ++ c.args.map ρ)[0]? = some (Value.iface t u) := by rw [Array.getElem?_append_left (by simp)]; rfl
            obtain ⟨n, hn⟩ : ∃ n, E.P.types.size + Made.depth = n + 1 := ⟨E.P.types.size + (Made.depth - 1), rfl⟩
            simp only [resolve, hc, hgv, Sem.run_bind, Sem.run_pure, Result.andThen_ok, invoke, e2, e1, callMethod, run_program, hn, hmeth, hrc]
          rw [hb]
          exact h Γ w _ hr hv'
        · exact h.elim
    · exact h.elim
  · rename_i hc
    split at h
    · rename_i s x t u ha ht
      have ha' := toList_two ha
      have ht' := toList_two ht
      have hs := hρ s (by unfold Call.operands; rw [hc, ha']; simp)
      have hx := hρ x (by unfold Call.operands; rw [hc, ha']; simp)
      obtain ⟨v, w', hrun, hres⟩ := aAppend2_ok (ty := ty) hr hs hx.rd h
      have hb : (do let d ← resolve ρ c ty; invoke d.target d.args : Sem Next).run E.P w = .ok (.value v) w' := by
        simp [resolve, hc, ha', ht', invoke, builtin, hrun]
      rw [hb]; exact hres
    · exact h.elim
  · rename_i hc
    split at h
    · rename_i x t ha ht
      have ha' := toList_one ha
      have ht' := toList_one ht
      have hx := hρ x (by unfold Call.operands; rw [hc, ha']; simp)
      obtain ⟨v, hrun, hres⟩ := aCap_ok (ty := ty) hr hx h
      have hb : (do let d ← resolve ρ c ty; invoke d.target d.args : Sem Next).run E.P w = .ok (.value v) w := by
        simp [resolve, hc, ha', ht', invoke, builtin, hrun]
      rw [hb]; exact hres
    · exact h.elim
  · rename_i hc
    split at h
    · rename_i s x t u ha ht
      have ha' := toList_two ha
      have ht' := toList_two ht
      have hs := hρ s (by unfold Call.operands; rw [hc, ha']; simp)
      have hx := hρ x (by unfold Call.operands; rw [hc, ha']; simp)
      obtain ⟨v, w', hrun, hres⟩ := aCopy_ok (u := u) (ty := ty) hr hs hx.rd h
      have hb : (do let d ← resolve ρ c ty; invoke d.target d.args : Sem Next).run E.P w = .ok (.value v) w' := by
        simp [resolve, hc, ha', ht', invoke, builtin, hrun]
      rw [hb]; exact hres
    · exact h.elim
  · rename_i hc
    split at h
    · rename_i x t ha ht
      have ha' := toList_one ha
      have ht' := toList_one ht
      have hx := hρ x (by unfold Call.operands; rw [hc, ha']; simp)
      obtain ⟨v, w', hrun, hres⟩ := aClear_ok (ty := ty) hr hx h
      have hb : (do let d ← resolve ρ c ty; invoke d.target d.args : Sem Next).run E.P w = .ok (.value v) w' := by
        simp [resolve, hc, ha', ht', invoke, builtin, hrun]
      rw [hb]; exact hres
    · exact h.elim
  · rename_i hc
    split at h
    · rename_i x t ha ht
      have ha' := toList_one ha
      have ht' := toList_one ht
      have hx := hρ x (by unfold Call.operands; rw [hc, ha']; simp)
      obtain ⟨v, hrun, hres⟩ := aLen_ok (ty := ty) hr hx.rd h
      have hb : (do let d ← resolve ρ c ty; invoke d.target d.args : Sem Next).run E.P w = .ok (.value v) w := by
        simp [resolve, hc, ha', ht', invoke, builtin, hrun]
      rw [hb]; exact hres
    · exact h.elim
  · rename_i hc
    split at h
    · rename_i m k t u ha ht
      have ha' := toList_two ha
      have ht' := toList_two ht
      have hm := hρ m (by unfold Call.operands; rw [hc, ha']; simp)
      have hk := hρ k (by unfold Call.operands; rw [hc, ha']; simp)
      have := aMapDel_ok (ty := ty) (ts := #[t, u]) rfl hr hm hk h
      simpa [resolve, hc, ha', ht', invoke, builtin] using this
    · exact h.elim
  · rename_i hc
    split at h
    · rename_i k a k' b ha
      have h0 := hargs
      rw [ha] at h0
      obtain ⟨h1, h2⟩ := h0
      obtain ⟨x, y, hxy⟩ : ∃ x y, (c.args.map ρ).toList = [x, y] := by
        match hm : (c.args.map ρ).toList, h1 with
        | [x, y], _ => exact ⟨x, y, rfl⟩
      rw [hxy] at h2
      have hx := h2 0 _ _ rfl rfl
      have hy := h2 1 _ _ rfl rfl
      cases hx; cases hy
      have hb : (do let d ← resolve ρ c ty; invoke d.target d.args : Sem Next).run E.P w = .ok (.value (.int k (if b > a then b else a))) w := by
        have := toList_two hxy
        simp [resolve, hc, this, invoke, builtin, Builtin.max_, Builtin.max2, -Array.toList_map]
      rw [hb]; exact Res.same hr (.c _ rfl) h
    · exact h.elim
  · rename_i hc
    split at h
    · rename_i k a k' b ha
      have h0 := hargs
      rw [ha] at h0
      obtain ⟨h1, h2⟩ := h0
      obtain ⟨x, y, hxy⟩ : ∃ x y, (c.args.map ρ).toList = [x, y] := by
        match hm : (c.args.map ρ).toList, h1 with
        | [x, y], _ => exact ⟨x, y, rfl⟩
      rw [hxy] at h2
      have hx := h2 0 _ _ rfl rfl
      have hy := h2 1 _ _ rfl rfl
      cases hx; cases hy
      have hb : (do let d ← resolve ρ c ty; invoke d.target d.args : Sem Next).run E.P w = .ok (.value (.int k (if b < a then b else a))) w := by
        have := toList_two hxy
        simp [resolve, hc, this, invoke, builtin, Builtin.min_, Builtin.min2, -Array.toList_map]
      rw [hb]; exact Res.same hr (.c _ rfl) h
    · exact h.elim
  · exact h.elim

/-- A row that only grows, without elements yet. -/
theorem new_nil_log {E : Env} {Γ : Ctx} {σ : Store} {w : World} {K : AV → Store → Prop} {e : TypeId} (hr : R E Γ σ w) (h : K (.lg σ.next []) (σ.alloc (.log e 0))) : Res E Γ w K (.slice none 0 0) w := by
  obtain ⟨hx, hR⟩ := hr.new (o' := .log e 0) (l' := ⟨none, tsz E.P e, 0, 0, some 0⟩) (grownBy_self w none) (.inl rfl) (by simp [AObj.lim]) fun hx => ⟨rfl, rfl, Nat.le_refl _, Nat.zero_le _, rfl, rfl⟩
  refine ⟨_, _, _, hx, hR, .lg σ.next [] _ ?_ ?_ (fun _ _ _ e he => by simp at he), h⟩
  · exact .ps [] none 0 0 0 (fun _ _ => Go.undef) (Nat.le_refl 0) (fun h => absurd rfl h) (by intro k e j x hk; simp at hk) (by intro k e j x hk; simp at hk) (by intro k e j x hk; simp at hk)
  · refine .rs σ.next 0 0 0 none 0 (by simp [Ctx.alloc, hr.next]) (Nat.le_refl _) fun l hl => ?_
    simp [Ctx.alloc, hr.next] at hl
    subst hl
    exact ⟨Nat.zero_le _, fun _ => ⟨rfl, rfl, rfl⟩⟩

theorem new_nil_arr {E : Env} {Γ : Ctx} {σ : Store} {w : World} {K : AV → Store → Prop} {e : TypeId} (hr : R E Γ σ w) (h : K (.rs σ.next 0 0 0) (σ.alloc (.arr e 0 []))) : Res E Γ w K (.slice none 0 0) w := by
  obtain ⟨hx, hR⟩ := hr.new (o' := .arr e 0 []) (l' := ⟨none, tsz E.P e, 0, 0, none⟩) (grownBy_self w none) (.inl rfl) rfl fun hx => ⟨rfl, rfl, by simp, by simp, Nat.zero_le _, rfl, rfl⟩
  refine ⟨_, _, _, hx, hR, ?_, h⟩
  refine .rs σ.next 0 0 0 none 0 (by simp [Ctx.alloc, hr.next]) (Nat.le_refl _) fun l hl => ?_
  simp [Ctx.alloc, hr.next] at hl
  subst hl
  exact ⟨Nat.zero_le _, fun _ => ⟨rfl, rfl, rfl⟩⟩

/-! ### One condition for every operation -/
def opK (E : Env) (ow : List Nat) (o : Oper) (f : Nat → AV) (σ : Store) (K : AV → Store → Prop) : Prop :=
  match o.op with
  | .move x => K (aeval E.G f x) σ
  | .assign x => if isNil x && (o.dst.map fun d => ow.contains (d + 3000000)).getD false then (match tk E.P o.type with
      | .slc e => K (.lg σ.next []) (σ.alloc (.log e 0))
      | _ => False)
    else if isNil x && (o.dst.map fun d => ow.contains (d + 4000000)).getD false then (match tk E.P o.type with
      | .slc e => K (.rs σ.next 0 0 0) (σ.alloc (.arr e 0 []))
      | _ => False)
    else K (aeval E.G f x) σ
  | .pick c a b => (match aeval E.G f c with
    | .c (.bool t) => K (if t then aeval E.G f a else aeval E.G f b) σ
    | _ => False)
  | .alloc t => aAlloc E t σ K
  | .box t x => aBox E t (aeval E.G f x) σ K
  | .build t ps => aBuild E t (ps.toList.map fun p => (p.1, aeval E.G f p.2)) fun a => K a σ
  | .buildSlice t n ps => if (o.dst.map fun d => ow.contains (d + 1000000)).getD false then aBuildLit E t n (ps.toList.map fun p => (p.1, aeval E.G f p.2)) fun a => K a σ
    else aBuildSlice E (ownN ow o.dst) t n (ps.toList.map fun p => (p.1, aeval E.G f p.2)) σ K
  | .load t x => aLoad E t (aeval E.G f x) σ fun a => K a σ
  | .store t x y => aStore E t (aeval E.G f x) (aeval E.G f y) σ fun σ' => K (.tup []) σ'
  | .nilCheck x => aNil (aeval E.G f x) fun a => K a σ
  | .binOp op t x y _ => if isNil y = true then aNilEq E op t (aeval E.G f x).rd fun a => K a σ else aBin E op t (aeval E.G f x) (aeval E.G f y) fun a => K a σ
  | .unOp op _ x => aUn op (aeval E.G f x) fun a => K a σ
  | .convert s d x => aConv2 E (ownN ow o.dst) s d (aeval E.G f x) σ K
  | .makeInterface t x => tk E.P t ≠ .other ∧ tk E.P t ≠ .ifc ∧ K (.ifc t (aeval E.G f x)) σ
  | .makeFunc fn first cap => K (.fn fn (first.toList.map (aeval E.G f)) (cap.toList.map (aeval E.G f))) σ
  | .makeSlice t l c => aMakeSlice E t (aeval E.G f l) (aeval E.G f c) σ K
  | .slice t x lo hi mx => (match mx with
    | none => if (tk E.P t).isArr = true then aSliceA E t (aeval E.G f x) (lo.map (aeval E.G f)) (hi.map (aeval E.G f)) σ K else aSlice E t (aeval E.G f x).rd (lo.map (aeval E.G f)) (hi.map (aeval E.G f)) σ fun a => K a σ
    | some m => aSlice3 E t (aeval E.G f x).rd (lo.map (aeval E.G f)) (hi.map (aeval E.G f)) (some (aeval E.G f m)) σ fun a => K a σ)
  | .fieldAddr t x i => aFieldAddr E t (aeval E.G f x) i fun a => K a σ
  | .field t x i => aField E t (aeval E.G f x) i fun a => K a σ
  | .indexAddr t x i => aIndexAddr E t (aeval E.G f x).rd (aeval E.G f i) σ fun a => K a σ
  | .index t x i => aIndex E t (aeval E.G f x) (aeval E.G f i) fun a => K a σ
  | .extract x i => (match aeval E.G f x with
    | .tup vs => (match vs[i]? with
      | some a => K a σ
      | none => False)
    | _ => False)
  | .call c => aCall E ow (ownN ow o.dst) c f σ K
  | op => opX E op (op.operands.toList.map (aeval E.G f)) σ K

theorem partsRel_of {Γ : Ctx} {w : World} {g : Operand → AV} {ρ : Operand → Value} : ∀ (ps : List (Nat × Operand)), (∀ p ∈ ps, VR Γ w (g p.2) (ρ p.2)) → PartsRel Γ w (ps.map fun p => (p.1, g p.2)) (ps.map fun p => (p.1, ρ p.2))
  | [], _ => trivial
  | p :: ps, h => ⟨rfl, h p (by simp), partsRel_of ps fun q hq => h q (by simp [hq])⟩

theorem ixRel_of {Γ : Ctx} {w : World} {g : Operand → AV} {ρ : Operand → Value} (x : Option Operand) (h : ∀ y, x = some y → VR Γ w (g y) (ρ y)) : IxRel Γ w (x.map g) (x.map ρ) := by
  cases x with
  | none => trivial
  | some y => exact h y rfl

theorem opK_ok {E : Env} {ow : List Nat} {Γ : Ctx} {σ : Store} {w : World} {o : Oper} {f : Nat → AV} {ρ : Operand → Value} {K : AV → Store → Prop} (hr : R E Γ σ w) (hρ : ∀ x ∈ o.op.operands, VR Γ w (aeval E.G f x) (ρ x)) (hcst : ∀ v, ρ (.const v) = v)
    (h : opK E ow o f σ K) : Up E Γ w K ((execOp ρ o).run E.P w) := by
  obtain ⟨dst, op, ty, pos, after, guard⟩ := o
  have hops : ∀ (op : Op), (∀ x ∈ op.operands, VR Γ w (aeval E.G f x) (ρ x)) → VRs Γ w (op.operands.toList.map (aeval E.G f)) (op.operands.toList.map ρ) := fun op hρ => ⟨by simp, fun j a v ha hv => by
    rw [List.getElem?_map, Option.map_eq_some_iff] at ha hv
    obtain ⟨x, hx, rfl⟩ := ha
    obtain ⟨y, hy, rfl⟩ := hv
    rw [hx] at hy
    cases hy
    exact hρ x (Array.mem_toList_iff.1 (List.mem_of_getElem? hx))⟩
  cases op <;> simp only [opK] at h <;> try exact opX_ok hr (hops _ hρ) h
  case move x => exact Res.same hr (hρ x (by simp [Op.operands])) h
  case assign x =>
    split at h
    · rename_i hc
      simp only [Bool.and_eq_true] at hc
      have hx : ρ x = .slice none 0 0 := by
        have hn := hc.1
        unfold isNil at hn
        split at hn
        · exact hcst _
        · cases hn
      split at h
      · rename_i e ht
        have : (execOp ρ ⟨dst, .assign x, ty, pos, after, guard⟩).run E.P w = .ok (.value (.slice none 0 0)) w := by simp [execOp, hx]
        rw [this]
        exact new_nil_log hr h
      · exact h.elim
    · split at h
      · rename_i hc
        simp only [Bool.and_eq_true] at hc
        have hx : ρ x = .slice none 0 0 := by
          have hn := hc.1
          unfold isNil at hn
          split at hn
          · exact hcst _
          · cases hn
        split at h
        · rename_i e ht
          have : (execOp ρ ⟨dst, .assign x, ty, pos, after, guard⟩).run E.P w = .ok (.value (.slice none 0 0)) w := by simp [execOp, hx]
          rw [this]
          exact new_nil_arr hr h
        · exact h.elim
      · exact Res.same hr (hρ x (by simp [Op.operands])) h
  case pick c a b =>
    split at h
    · rename_i t hc
      have hcv := hρ c (by simp [Op.operands])
      rw [hc] at hcv
      generalize hcc : ρ c = cv at hcv
      cases hcv
      have ha := hρ a (by simp [Op.operands])
      have hb := hρ b (by simp [Op.operands])
      have : (execOp ρ ⟨dst, .pick c a b, ty, pos, after, guard⟩).run E.P w = .ok (.value (if t then ρ a else ρ b)) w := by simp [execOp, hcc, asBool]
      rw [this]
      refine Res.same hr (a := if t then aeval E.G f a else aeval E.G f b) ?_ h
      cases t
      · exact hb
      · exact ha
    · exact h.elim
  case alloc t => exact aAlloc_ok hr h
  case box t x => exact aBox_ok hr (hρ x (by simp [Op.operands])) h
  case build t ps =>
    refine aBuild_ok hr ?_ h
    have := partsRel_of (Γ := Γ) (w := w) (g := aeval E.G f) (ρ := ρ) ps.toList (fun p hp => hρ p.2 (by simp only [Op.operands, List.mem_toArray, List.mem_map]; exact ⟨p, hp, rfl⟩))
    simpa using this
  case buildSlice t n ps =>
    have hp : PartsRel Γ w (ps.toList.map fun p => (p.1, aeval E.G f p.2)) (ps.map fun p => (p.1, ρ p.2)).toList := by
      have := partsRel_of (Γ := Γ) (w := w) (g := aeval E.G f) (ρ := ρ) ps.toList (fun p hp => hρ p.2 (by simp only [Op.operands, List.mem_toArray, List.mem_map]; exact ⟨p, hp, rfl⟩))
      simpa using this
    split at h
    · exact aBuildLit_ok hr hp h
    refine aBuildSlice_ok hr ?_ h
    have := partsRel_of (Γ := Γ) (w := w) (g := aeval E.G f) (ρ := ρ) ps.toList (fun p hp => hρ p.2 (by simp only [Op.operands, List.mem_toArray, List.mem_map]; exact ⟨p, hp, rfl⟩))
    simpa using this
  case load t x => exact aLoad_ok hr (hρ x (by simp [Op.operands])) h
  case store t x y => exact aStore_ok hr (hρ x (by simp [Op.operands])) (hρ y (by simp [Op.operands])) h
  case nilCheck x =>
    have hx := hρ x (by simp [Op.operands])
    unfold aNil at h
    split at h
    · rename_i cs hc
      rw [hc] at hx
      generalize hxx : ρ x = xv at hx
      have hx0 := hx
      cases hx
      have : (execOp ρ ⟨dst, .nilCheck x, ty, pos, after, guard⟩).run E.P w = .ok (.value (ρ x)) w := by simp [execOp, hxx]
      rw [this, hxx]
      exact Res.same hr hx0 (by rw [hc] at h; exact h)
    · rename_i hc
      rw [hc] at hx
      generalize hxx : ρ x = xv at hx
      have hx0 := hx
      cases hx
      have : (execOp ρ ⟨dst, .nilCheck x, ty, pos, after, guard⟩).run E.P w = .ok (.value (ρ x)) w := by simp [execOp, hxx]
      rw [this, hxx]
      exact Res.same hr hx0 (by rw [hc] at h; exact h)
    · rename_i hc
      rw [hc] at hx
      generalize hxx : ρ x = xv at hx
      have hx0 := hx
      cases hx
      have : (execOp ρ ⟨dst, .nilCheck x, ty, pos, after, guard⟩).run E.P w = .ok (.value (ρ x)) w := by simp [execOp, hxx]
      rw [this, hxx]
      exact Res.same hr hx0 (by rw [hc] at h; exact h)
    · rename_i hc
      rw [hc] at hx
      generalize hxx : ρ x = xv at hx
      have hx0 := hx
      cases hx
      have : (execOp ρ ⟨dst, .nilCheck x, ty, pos, after, guard⟩).run E.P w = .ok (.value (ρ x)) w := by simp [execOp, hxx]
      rw [this, hxx]
      exact Res.same hr hx0 (by rw [hc] at h; exact h)
    · exact h.elim
  case binOp op t x y yt =>
    split at h
    · rename_i hn
      have hy := hρ y (by simp [Op.operands])
      have hyv : ρ y = .slice none 0 0 := by
        unfold isNil at hn
        split at hn
        · exact hcst _
        · cases hn
      have := aNilEq_ok (ox := x) (oy := y) hr (hρ x (by simp [Op.operands])).rd h
      simpa [execOp, hyv] using this
    · exact aBin_ok hr (hρ x (by simp [Op.operands])) (hρ y (by simp [Op.operands])) h
  case unOp op t x => exact aUn_ok hr (hρ x (by simp [Op.operands])) h
  case convert s d x => exact aConv2_ok hr (hρ x (by simp [Op.operands])) h
  case makeInterface t x =>
    obtain ⟨h1, h2, h⟩ := h
    obtain ⟨d, hd⟩ := under_of_tk h1
    have hx := hρ x (by simp [Op.operands])
    refine Up.value (v := .iface t (ρ x)) (w' := w) ?_ (Res.same hr (.ifc t _ _ hx) h)
    unfold tk at h2
    cases d <;> simp_all [Instr.makeInterface, run_underlying hd]
  case makeFunc fn first cap =>
    refine Up.value (v := .func fn (first.map ρ) (cap.map ρ)) (w' := w) (by simp [Instr.makeFunc]) (Res.same hr ?_ h)
    refine .fn fn _ _ _ _ (by simp) (by simp) ?_ ?_
    · intro j a v ha hv
      rw [List.getElem?_map, Option.map_eq_some_iff] at ha
      obtain ⟨x, hx, rfl⟩ := ha
      have hx' : first[j]? = some x := by simpa using hx
      rw [Array.getElem?_map, hx'] at hv
      cases hv
      exact hρ x (by simp only [Op.operands]; exact Array.mem_append.2 (.inl (Array.mem_of_getElem? hx')))
    · intro j a v ha hv
      rw [List.getElem?_map, Option.map_eq_some_iff] at ha
      obtain ⟨x, hx, rfl⟩ := ha
      have hx' : cap[j]? = some x := by simpa using hx
      rw [Array.getElem?_map, hx'] at hv
      cases hv
      exact hρ x (by simp only [Op.operands]; exact Array.mem_append.2 (.inr (Array.mem_of_getElem? hx')))
  case makeSlice t l c => exact aMakeSlice_ok hr (hρ l (by simp [Op.operands])) (hρ c (by simp [Op.operands])) h
  case slice t x lo hi mx =>
    cases mx with
    | some m =>
      exact aSlice3_ok (mx := some (aeval E.G f m)) (mxv := some (ρ m)) hr (hρ x (by simp [Op.operands])).rd (ixRel_of lo fun y hy => hρ y (by subst hy; simp [Op.operands])) (ixRel_of hi fun y hy => hρ y (by subst hy; simp [Op.operands])) (hρ m (by simp [Op.operands])) h
    | none =>
      by_cases hA : (tk E.P t).isArr = true
      · simp only [if_pos hA] at h
        exact aSliceA_ok hr (hρ x (by simp [Op.operands])) (ixRel_of lo fun y hy => hρ y (by subst hy; simp [Op.operands])) (ixRel_of hi fun y hy => hρ y (by subst hy; simp [Op.operands])) h
      · simp only [if_neg hA] at h
        refine aSlice_ok hr (hρ x (by simp [Op.operands])).rd (ixRel_of lo fun y hy => hρ y (by subst hy; simp [Op.operands])) (ixRel_of hi fun y hy => hρ y (by subst hy; simp [Op.operands])) h
  case fieldAddr t x i => exact aFieldAddr_ok hr (hρ x (by simp [Op.operands])) h
  case field t x i => exact aField_ok hr (hρ x (by simp [Op.operands])) h
  case indexAddr t x i => exact aIndexAddr_ok hr (hρ x (by simp [Op.operands])).rd (hρ i (by simp [Op.operands])) h
  case index t x i => exact aIndex_ok hr (hρ x (by simp [Op.operands])) (hρ i (by simp [Op.operands])) h
  case extract x i =>
    have hx := hρ x (by simp [Op.operands])
    split at h
    · rename_i vs hc
      rw [hc] at hx
      generalize hxx : ρ x = xv at hx
      split at h
      · rename_i a ha
        cases hx with
        | tup cs xs hs hv =>
          have hlt : i < xs.size := by rw [← hs]; exact (List.getElem?_eq_some_iff.1 ha).1
          have hxi := Array.getElem?_eq_getElem hlt
          exact Up.value (v := xs[i]) (w' := w) (by simp [hxx, Instr.extract, hxi]) (Res.same hr (hv i a _ ha hxi) h)
      · exact h.elim
    · exact h.elim
  case call c => exact aCall_ok hr (fun x hx => hρ x (by simpa [Op.operands] using hx)) h
end Go.AW
