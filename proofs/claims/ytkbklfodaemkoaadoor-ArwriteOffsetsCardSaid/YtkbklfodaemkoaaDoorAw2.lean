/- What each operation of the machine does to abstract values (a condition with what follows in it), and that the machine does the same. No condition. -/
import Derived.Test.YtkbklfodaemkoaaDoorAw1
import Derived.WalkKit
set_option linter.unusedVariables false
set_option linter.unusedSimpArgs false
set_option linter.unnecessarySimpa false
namespace Go.AW
open Go

/-! ### Types -/
def tsz (P : Program) (t : TypeId) : Nat := cellsOf' P t
inductive TK where
  | int (k : IntKind) | bool | str | slc (e : TypeId) | ptr (e : TypeId) | strct | arr (n : Nat) (e : TypeId) | map (k e : TypeId) | fn | ifc | other
  deriving DecidableEq
def tk (P : Program) (t : TypeId) : TK :=
  match P.underlying t with
  | some (.int k) => .int k
  | some .bool => .bool
  | some .string => .str
  | some (.slice e) => .slc e
  | some (.pointer e) => .ptr e
  | some (.struct _) => .strct
  | some (.array n e) => .arr n e
  | some (.map k e) => .map k e
  | some (.func ..) => .fn
  | some (.interface _) => .ifc
  | _ => .other
def TK.agg : TK → Bool
  | .strct | .arr .. => true
  | _ => false
def fld (P : Program) (t : TypeId) (i : Nat) : Option (Nat × TypeId) :=
  match P.underlying t with
  | some (.struct fs) => (fs[i]?).bind fun f => if cellsOf' P f.type = 0 then none else some (f.offset, f.type)
  | _ => none
def tzero (P : Program) (t : TypeId) : Option Value := (P.info? t).bind (·.zero)

theorem run_tsz {P : Program} {t : TypeId} (h : tsz P t ≠ 0) (w : World) : (sizeOf t).run P w = .ok (tsz P t) w := by
  unfold tsz cellsOf' at *
  cases hi : P.info? t with
  | none => simp [hi] at h
  | some i => simp [sizeOf, typeInfo, hi]

theorem run_isAgg {P : Program} {t : TypeId} (h : tk P t ≠ .other) (w : World) : (isAgg t).run P w = .ok (tk P t).agg w := by
  unfold tk at *
  unfold isAgg
  cases hu : P.underlying t with
  | none => simp [hu] at h
  | some d =>
    simp only [hu] at h ⊢
    rw [Sem.run_bind, run_underlying hu w]
    cases d <;> simp_all [TK.agg]

/-! ### Constants, operands -/
def AV.ofV1 : Value → AV
  | .slice none 0 0 => .nl
  | .agg _ => .junk
  | .tuple _ => .junk
  | v => .c v
def AV.ofV : Value → AV
  | .agg xs => if xs.all Value.oneCell' then .agg (xs.toList.map AV.ofV1) else .junk
  | .tuple xs => if xs.size = 0 then .tup [] else .junk
  | v => AV.ofV1 v

theorem VR.ofV1 (Γ : Ctx) (w : World) (v : Value) : VR Γ w (AV.ofV1 v) v := by
  unfold AV.ofV1
  split
  · exact .nl _
  · exact .junk _
  · exact .junk _
  · rename_i h1 h2 h3
    exact .c _ (by cases v <;> simp_all [Value.oneCell'])

theorem VR.ofV (Γ : Ctx) (w : World) (v : Value) : VR Γ w (AV.ofV v) v := by
  unfold AV.ofV
  split
  · rename_i xs
    split
    · rename_i h
      refine .agg _ _ (by simp) ?_ ?_
      · intro j x hx
        have := Array.all_eq_true.1 h j (Array.getElem?_eq_some_iff.1 hx).1
        rw [(Array.getElem?_eq_some_iff.1 hx).2] at this
        exact this
      · intro j a x ha hx
        simp only [List.getElem?_map, Array.getElem?_toList, hx, Option.map_some, Option.some.injEq] at ha
        subst ha
        exact VR.ofV1 Γ w x
    · exact .junk _
  · rename_i xs
    split
    · rename_i h
      have : xs = #[] := Array.eq_empty_of_size_eq_zero h
      subst this
      exact .tup [] #[] rfl (by intro j a x h; simp at h)
    · exact .junk _
  · exact VR.ofV1 Γ w v

def aeval (G : Nat → Option (List AV)) (f : Nat → AV) : Operand → AV
  | .tmp t => f t
  | .const v => AV.ofV v
  | .global g => match G g with
    | some cs => .pp cs
    | none => .junk
  | .func k => .fn (.func k) [] []

def upd (f : Nat → AV) (t : Nat) (v : AV) : Nat → AV := fun s => if s = t then v else f s

structure TR (N : Nat) (Γ : Ctx) (w : World) (f : Nat → AV) (tmps : Array Value) : Prop where
  size : tmps.size = N
  rel : ∀ t, t < N → VR Γ w (f t) (tmps.getD t undef)
  far : ∀ t, N ≤ t → f t = .junk

theorem TR.ext {N : Nat} {Γ Γ' : Ctx} {w w' : World} {f : Nat → AV} {tmps : Array Value} (h : TR N Γ w f tmps) (hx : ExtN Γ.next Γ w Γ' w') : TR N Γ' w' f tmps :=
  ⟨h.size, fun t ht => (h.rel t ht).ext hx, h.far⟩

theorem TR.upd {N : Nat} {Γ : Ctx} {w : World} {f : Nat → AV} {tmps : Array Value} (h : TR N Γ w f tmps) {t : Nat} {a : AV} {v : Value} (ht : t < N) (hv : VR Γ w a v) :
    TR N Γ w (upd f t a) (tmps.setIfInBounds t v) := by
  refine ⟨by simp [h.size], fun s hs => ?_, fun s hs => ?_⟩
  · unfold AW.upd
    have hsz := h.size
    by_cases e : s = t
    · subst e
      have : (tmps.setIfInBounds s v).getD s undef = v := by
        simp [Array.getD, hsz, hs]
      rw [this]; simpa using hv
    · have : (tmps.setIfInBounds t v).getD s undef = tmps.getD s undef := by
        simp only [Array.getD_eq_getD_getElem?, Array.getElem?_setIfInBounds]
        rw [if_neg (fun h => e h.symm)]
      rw [this, if_neg e]; exact h.rel s hs
  · unfold AW.upd
    rw [if_neg (by omega)]
    exact h.far s hs

theorem TR.eval {E : Env} {N : Nat} {Γ : Ctx} {σ : Store} {w : World} {f : Nat → AV} {a : Act} (h : TR N Γ w f a.tmps) (hr : R E Γ σ w) (x : Operand) : VR Γ w (aeval E.G f x) (a.eval x) := by
  cases x with
  | tmp t =>
    by_cases ht : t < N
    · exact h.rel t ht
    · simp only [aeval, h.far t (Nat.le_of_not_lt ht)]; exact .junk _
  | const v => exact VR.ofV Γ w v
  | global g =>
    simp only [aeval, Act.eval]
    cases hg : E.G g with
    | none => exact .junk _
    | some cs => exact (hr.glob g cs hg).vr
  | func k =>
    refine .fn (.func k) [] [] #[] #[] rfl rfl ?_ ?_ <;> intro j a x h <;> simp at h

/-! ### What a step of the machine has come to -/
def Res (E : Env) (Γ : Ctx) (w : World) (K : AV → Store → Prop) (v : Value) (w' : World) : Prop :=
  ∃ Γ' a σ', ExtN Γ.next Γ w Γ' w' ∧ R E Γ' σ' w' ∧ VR Γ' w' a v ∧ K a σ'

/-- No bound; in a function's own frame or in a round's. -/
def wideR (rd : Option Nat) : Fence := { fn := fun _ => True, depth := none, alive := false, round := rd }
theorem callsIn_rd {rd : Option Nat} {n m : Nat} {P : Program} {f : FuncId} {args : Array Value} {w : World} {R : Ending → World → Prop} (h : CallsIn Fence.wide n P f args w R) : CallsIn (wideR rd) m P f args w R :=
  ⟨trivial, fun cs _ => by
    obtain ⟨e, w', fr, r, s, x⟩ := h.2 cs (room_wide _)
    exact ⟨e, w', fr, r, s, x⟩⟩
theorem roundIn_rd {rd : Option Nat} {n m : Nat} {P : Program} {l : Nat} {f : FuncId} {tmps : Array Value} {assign body : Code} {w : World} {R : Ending → World → Prop} (h : RoundIn Fence.wide n P l f tmps assign body w R) : RoundIn (wideR rd) m P l f tmps assign body w R :=
  ⟨trivial, fun c cs _ => by
    obtain ⟨e, w', r, s⟩ := h.2 c cs (room_wide _)
    exact ⟨e, w', r, s⟩⟩
/-- A call has ended: with an answer, or with a panic that is allowed here. -/
def Ends (E : Env) (Γ : Ctx) (w : World) (K : AV → Store → Prop) (e : Ending) (w' : World) : Prop :=
  (∃ v, e = .returned v ∧ Res E Γ w K v w') ∨ ∃ v, e = .panicked [{ v := v, recovered := false }] ∧ Res E Γ w E.pan v w'
theorem Res.mono {E : Env} {Γ : Ctx} {w w' : World} {K K' : AV → Store → Prop} {v : Value} (h : Res E Γ w K v w') (hk : ∀ a s, K a s → K' a s) : Res E Γ w K' v w' := by
  obtain ⟨Γ', a, σ', h1, h2, h3, h4⟩ := h
  exact ⟨Γ', a, σ', h1, h2, h3, hk _ _ h4⟩
theorem Ends.mono {E : Env} {Γ : Ctx} {w : World} {K K' : AV → Store → Prop} {e : Ending} {w' : World} (h : Ends E Γ w K e w') (hk : ∀ a s, K a s → K' a s) : Ends E Γ w K' e w' := by
  rcases h with ⟨v, h1, h2⟩ | h
  · exact .inl ⟨v, h1, h2.mono hk⟩
  · exact .inr h
def Up (E : Env) (Γ : Ctx) (w : World) (K : AV → Store → Prop) : Result Next → Prop
  | .ok (.value v) w' => Res E Γ w K v w'
  | .ok .skip w' => Res E Γ w K undef w'
  | .ok (.enter f args) w' => Calls E.P f args w' (Ends E Γ w K)
  | .ok (.round l f tmps assign body) w' => RoundIn Fence.wide 0 E.P l f tmps assign body w' (Ends E Γ w K)
  | .halt (.panic v) w' => Res E Γ w E.pan v w'
  | _ => False

theorem Res.same {E : Env} {Γ : Ctx} {σ : Store} {w : World} {K : AV → Store → Prop} {v : Value} {a : AV} (hr : R E Γ σ w) (hv : VR Γ w a v) (hk : K a σ) : Res E Γ w K v w :=
  ⟨Γ, a, σ, ExtN.refl Γ w (Nat.le_refl _), hr, hv, hk⟩

theorem VR.undef_ (Γ : Ctx) (w : World) : VR Γ w (.tup []) undef := .tup [] #[] rfl (by intro j a x h; simp at h)

/-! ### Whole numbers, strings, bools -/
def binS : BinOp → Value → Value → Option Value
  | .add, .int k a, .int k' b => if k = k' then some (.int k (k.wrap (a + b))) else none
  | .sub, .int k a, .int k' b => if k = k' then some (.int k (k.wrap (a - b))) else none
  | .mul, .int k a, .int k' b => if k = k' then some (.int k (k.wrap (a * b))) else none
  | .quo, .int k a, .int k' b => if k = k' ∧ b ≠ 0 then some (.int k (k.wrap (a.tdiv b))) else none
  | .rem, .int k a, .int k' b => if k = k' ∧ b ≠ 0 then some (.int k (a.tmod b)) else none
  | .and, .int k a, .int k' b => if k = k' then some (.int k (k.wrap (BitVec.ofInt k.bits a &&& BitVec.ofInt k.bits b).toNat)) else none
  | .or, .int k a, .int k' b => if k = k' then some (.int k (k.wrap (BitVec.ofInt k.bits a ||| BitVec.ofInt k.bits b).toNat)) else none
  | .shl, .int k a, .int _ b => if 0 ≤ b then some (.int k (k.wrap (a * 2 ^ (min b.toNat k.bits)))) else none
  | .shr, .int k a, .int _ b => if 0 ≤ b then some (.int k (a.fdiv (2 ^ (min b.toNat k.bits)))) else none
  | .eql, .int k a, .int k' b => if k = k' then some (.bool (a == b)) else none
  | .neq, .int k a, .int k' b => if k = k' then some (.bool (a != b)) else none
  | .lss, .int k a, .int k' b => if k = k' then some (.bool (decide (a < b))) else none
  | .leq, .int k a, .int k' b => if k = k' then some (.bool (decide (a ≤ b))) else none
  | .gtr, .int k a, .int k' b => if k = k' then some (.bool (decide (a > b))) else none
  | .geq, .int k a, .int k' b => if k = k' then some (.bool (decide (a ≥ b))) else none
  | .add, .string a, .string b => if a.size + b.size ≤ 9223372036854775807 then some (.string (a ++ b)) else none
  | .eql, .string a, .string b => some (.bool (a.toList == b.toList))
  | .neq, .string a, .string b => some (.bool !(a.toList == b.toList))
  | .lss, .string a, .string b => some (.bool (Op.bytesLess a.toList b.toList))
  | _, _, _ => none

theorem run_binS (P : Program) {op : BinOp} {t : TypeId} {x y v : Value} {ox oy : Operand} (h : binS op x y = some v) (w : World) :
    (do eqGuard op t ox oy x y; binOp op t x y : Sem Value).run P w = .ok v w := by
  unfold binS at h
  split at h
  case h_8 =>
    split at h
    · rename_i hb
      cases h
      simp [eqGuard, binOp, Op.shift, Int.not_lt.2 hb]
    · cases h
  case h_9 =>
    split at h
    · rename_i hb
      cases h
      simp [eqGuard, binOp, Op.shift, Int.not_lt.2 hb]
    · cases h
  case h_16 =>
    split at h
    · rename_i hb
      cases h
      simp [eqGuard, binOp, Op.stringOp, IntKind.max, IntKind.signed, IntKind.bits]
      omega
    · cases h
  all_goals first
    | (split at h <;> first
        | (rename_i hk; first | (obtain ⟨rfl, hb⟩ := hk) | subst hk
           cases h
           simp_all [eqGuard, binOp, Op.intArith, Op.intDiv, Op.intBits, Op.intCmp]
           done)
        | cases h)
    | (cases h; simp [eqGuard, binOp, Op.stringOp]; done)
    | cases h
end Go.AW
