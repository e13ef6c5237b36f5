/- The conditions of the operations once more, so that a simplifier meets what follows an operation only when its value is known. No condition. -/
import Derived.Test.YtkbklfodaemkoaaDoorAw15
set_option linter.unusedVariables false
set_option linter.unusedSimpArgs false
set_option linter.unnecessarySimpa false
namespace Go.AW
open Go

section
variable {E : Env} {ow : List Nat} {N : Nat} {ops : Array Oper}

def at1 (K : AV → Store → Prop) (σ : Store) (a : AV) : Prop := K a σ
@[simp] theorem at1_apply (K : AV → Store → Prop) (σ : Store) (a : AV) : at1 K σ a = K a σ := (rfl)
def at2 (K : AV → Store → Prop) (σ : Store) : Prop := K (.tup []) σ
@[simp] theorem at2_apply (K : AV → Store → Prop) (σ : Store) : at2 K σ = K (.tup []) σ := (rfl)

/-- What follows an operation. -/
def kont (E : Env) (ow : List Nat) (N : Nat) (ops : Array Oper) (l : List Oper) (K : (Nat → AV) → Store → Prop) (d : Option Tmp) (f : Nat → AV) (a : AV) (σ : Store) : Prop := aput N f d a fun f' => aops E ow N ops l f' σ K
@[simp] theorem kont_some (l : List Oper) (K : (Nat → AV) → Store → Prop) (d : Tmp) (f : Nat → AV) (a : AV) (σ : Store) : kont E ow N ops l K (some d) f a σ = (d < N ∧ aops E ow N ops l (upd f d a) σ K) := (rfl)
@[simp] theorem kont_none (l : List Oper) (K : (Nat → AV) → Store → Prop) (f : Nat → AV) (a : AV) (σ : Store) : kont E ow N ops l K none f a σ = aops E ow N ops l f σ K := (rfl)

/-- A guard that is not known yet. -/
def stuck (b : Option Bool) (E : Env) (ow : List Nat) (N : Nat) (ops : Array Oper) (o : Oper) (l : List Oper) (f : Nat → AV) (σ : Store) (K : (Nat → AV) → Store → Prop) : Prop :=
  match b with
  | some g => (g = true → opK E ow o f σ (kont E ow N ops l K o.dst f)) ∧ (g = false → kont E ow N ops l K o.dst f (.tup []) σ)
  | none => False

@[simp] theorem aops_nil (f : Nat → AV) (σ : Store) (K : (Nat → AV) → Store → Prop) : aops E ow N ops [] f σ K = K f σ := (rfl)
theorem aops_cons (o : Oper) (l : List Oper) (f : Nat → AV) (σ : Store) (K : (Nat → AV) → Store → Prop) :
    aops E ow N ops (o :: l) f σ K = if aGuard ops f o = some true then opK E ow o f σ (kont E ow N ops l K o.dst f) else if aGuard ops f o = some false then kont E ow N ops l K o.dst f (.tup []) σ else stuck (aGuard ops f o) E ow N ops o l f σ K := by
  apply propext
  rw [aops]
  unfold stuck
  cases aGuard ops f o with
  | none => simp
  | some g =>
    cases g
    · simp [kont]
    · simp only [if_true]
      simp only [Bool.true_eq_false, forall_const, false_implies, and_true, true_implies]
      exact Iff.rfl

/-- A call in a region that draws its order: its answer is known. -/
def callQ (E : Env) (k : FuncId) (args : List AV) (σ : Store) (K : AV → Prop) : Prop := ∃ a, ACalls E k args σ (fun r σ' => r = a ∧ σ' = σ) ∧ K a
theorem callQ_of {k : FuncId} {args : List AV} {σ : Store} {K : AV → Prop} {a : AV} (h : ACalls E k args σ fun r σ' => r = a ∧ σ' = σ) (hk : K a) : callQ E k args σ K := ⟨a, h, hk⟩

end

/-! #### The operations -/
section
variable {E : Env} {ow : List Nat}

theorem aLen_eq' (t : TypeId) (x : AV) (σ : Store) (K : AV → Store → Prop) : aLen E t x σ (fun a => K a σ) = aLen E t x σ (at1 K σ) := rfl

@[simp] theorem aCall_eq (own : Nat) (c : Call) (f : Nat → AV) (σ : Store) (K : AV → Store → Prop) : aCall E ow own c f σ K = (match c.callee with
  | .value g => (match aeval E.G f g with
    | .fn (.func k) first cap => if callable E.P k = true then ACalls E k (first ++ c.args.toList.map (fun x => argV ow k (aeval E.G f x)) ++ cap) σ K else AExt E k (first ++ c.args.toList.map (aeval E.G f) ++ cap) σ K
    | .fn (.yield b) [] [] => AYield E b (c.args.toList.map fun x => frz (aeval E.G f x)) σ K
    | _ => False)
  | .invoke r m => (match aeval E.G f r with
    | .ifc t v => (match methodOf E.P t m with
      | some k => callable E.P k = true ∧ ACalls E k (v :: c.args.toList.map (fun x => argV ow k (aeval E.G f x))) σ K
      | none => False)
    | _ => False)
  | .builtin .append => (match c.args.toList, c.argTypes.toList with
    | [s, x], [t, u] => aAppend2 E own t u (aeval E.G f s) (aeval E.G f x).rd σ K
    | _, _ => False)
  | .builtin .cap => (match c.args.toList, c.argTypes.toList with
    | [x], [t] => aCap E t (aeval E.G f x) (at1 K σ)
    | _, _ => False)
  | .builtin .copy => (match c.args.toList, c.argTypes.toList with
    | [s, x], [t, u] => aCopy E t (aeval E.G f s) (aeval E.G f x).rd σ K
    | _, _ => False)
  | .builtin .clear => (match c.args.toList, c.argTypes.toList with
    | [x], [t] => aClear E t (aeval E.G f x) σ (at2 K)
    | _, _ => False)
  | .builtin .len => (match c.args.toList, c.argTypes.toList with
    | [x], [t] => aLen E t (aeval E.G f x).rd σ (at1 K σ)
    | _, _ => False)
  | .builtin .delete => (match c.args.toList, c.argTypes.toList with
    | [m, k], [t, u] => aMapDel E t (aeval E.G f m) (aeval E.G f k) σ K
    | _, _ => False)
  | .builtin .max => (match c.args.toList.map (aeval E.G f) with
    | [.c (.int k a), .c (.int _ b)] => K (.c (.int k (if b > a then b else a))) σ
    | _ => False)
  | .builtin .min => (match c.args.toList.map (aeval E.G f) with
    | [.c (.int k a), .c (.int _ b)] => K (.c (.int k (if b < a then b else a))) σ
    | _ => False)
  | _ => False) := by
  unfold aCall
  rfl

@[simp] theorem opK_eq (o : Oper) (f : Nat → AV) (σ : Store) (K : AV → Store → Prop) : opK E ow o f σ K = (match o.op with
  | .move x => K (aeval E.G f x) σ
  | .assign x => if isNil x && (o.dst.map fun d => ow.contains (d + 3000000)).getD false then (match tk E.P o.type with
      | .slc e => K (.lg σ.next []) (σ.alloc (.log e 0))
      | _ => False)
    else if isNil x && (o.dst.map fun d => ow.contains (d + 4000000)).getD false then (match tk E.P o.type with
      | .slc e => K (.rs σ.next 0 0 0) (σ.alloc (.arr e 0 []))
      | _ => False)
    else K (aeval E.G f x) σ
  | .pick c a b => (match aeval E.G f c with
    | .c (.bool t) => K (if t then aeval E.G f a else aeval E.G f b) σ
    | _ => False)
  | .alloc t => aAlloc E t σ K
  | .box t x => aBox E t (aeval E.G f x) σ K
  | .build t ps => aBuild E t (ps.toList.map fun p => (p.1, aeval E.G f p.2)) (at1 K σ)
  | .buildSlice t n ps => if (o.dst.map fun d => ow.contains (d + 1000000)).getD false then aBuildLit E t n (ps.toList.map fun p => (p.1, aeval E.G f p.2)) (at1 K σ)
    else aBuildSlice E (ownN ow o.dst) t n (ps.toList.map fun p => (p.1, aeval E.G f p.2)) σ K
  | .load t x => aLoad E t (aeval E.G f x) σ (at1 K σ)
  | .store t x y => aStore E t (aeval E.G f x) (aeval E.G f y) σ (at2 K)
  | .nilCheck x => aNil (aeval E.G f x) (at1 K σ)
  | .binOp op t x y _ => if isNil y = true then aNilEq E op t (aeval E.G f x).rd (at1 K σ) else aBin E op t (aeval E.G f x) (aeval E.G f y) (at1 K σ)
  | .unOp op _ x => aUn op (aeval E.G f x) (at1 K σ)
  | .convert s d x => aConv2 E (ownN ow o.dst) s d (aeval E.G f x) σ K
  | .makeInterface t x => tk E.P t ≠ .other ∧ tk E.P t ≠ .ifc ∧ K (.ifc t (aeval E.G f x)) σ
  | .makeFunc fn first cap => K (.fn fn (first.toList.map (aeval E.G f)) (cap.toList.map (aeval E.G f))) σ
  | .makeSlice t l c => aMakeSlice E t (aeval E.G f l) (aeval E.G f c) σ K
  | .slice t x lo hi mx => (match mx with
    | none => if (tk E.P t).isArr = true then aSliceA E t (aeval E.G f x) (lo.map (aeval E.G f)) (hi.map (aeval E.G f)) σ K else aSlice E t (aeval E.G f x).rd (lo.map (aeval E.G f)) (hi.map (aeval E.G f)) σ (at1 K σ)
    | some m => aSlice3 E t (aeval E.G f x).rd (lo.map (aeval E.G f)) (hi.map (aeval E.G f)) (some (aeval E.G f m)) σ (at1 K σ))
  | .fieldAddr t x i => aFieldAddr E t (aeval E.G f x) i (at1 K σ)
  | .field t x i => aField E t (aeval E.G f x) i (at1 K σ)
  | .indexAddr t x i => aIndexAddr E t (aeval E.G f x).rd (aeval E.G f i) σ (at1 K σ)
  | .index t x i => aIndex E t (aeval E.G f x) (aeval E.G f i) (at1 K σ)
  | .extract x i => (match aeval E.G f x with
    | .tup vs => (match vs[i]? with
      | some a => K a σ
      | none => False)
    | _ => False)
  | .call c => aCall E ow (ownN ow o.dst) c f σ K
  | op => opX E op (op.operands.toList.map (aeval E.G f)) σ K) := by
  unfold opK
  rfl

@[simp] theorem aIndexAddr_eq (t : TypeId) (x i : AV) (σ : Store) (K : AV → Prop) : aIndexAddr E t x i σ K = (match i with
  | .c (.int _ n) => 0 ≤ n ∧ (match tk E.P t, x with
    | .slc e, .ps es => tsz E.P e ≠ 0 ∧ ∃ h : n.toNat < es.length, tsz E.P e = es[n.toNat].cells.length ∧ K (.pp es[n.toNat].cells)
    | .slc e, .rs i g off len => n < len ∧ (match σ.get i with
      | some (.arr T g' _) => g = g' ∧ tsz E.P e ≠ 0 ∧ tsz E.P e = tsz E.P T ∧ K (.rp i g (off + n.toNat) 0)
      | _ => False)
    | .arr m e, .pp cs => n < m ∧ tsz E.P e ≠ 0 ∧ K (.pp (cs.drop (n.toNat * tsz E.P e)))
    | _, _ => False)
  | _ => False) := by
  apply propext
  unfold aIndexAddr
  cases i <;> try exact Iff.rfl
  rename_i v
  cases v <;> try exact Iff.rfl
  refine and_congr_right fun _ => ?_
  generalize tk E.P t = T
  cases T <;> cases x <;> try exact Iff.rfl
  rename_i z _ e es
  refine and_congr_right fun _ => ?_
  constructor
  · rintro ⟨a, h1, h2, h3⟩
    obtain ⟨h4, h5⟩ := List.getElem?_eq_some_iff.1 h1
    subst h5
    exact ⟨h4, h2, h3⟩
  · rintro ⟨h4, h2, h3⟩
    exact ⟨_, List.getElem?_eq_getElem h4, h2, h3⟩

@[simp] theorem aAppend_eq (t u : TypeId) (s x : AV) (σ : Store) (K : AV → Store → Prop) : aAppend E t u s x σ K = ((tk E.P u = .str ∨ ∃ e, tk E.P u = .slc e) ∧ (match tk E.P t with
    | .slc e => tsz E.P e ≠ 0 ∧ (azero E.P e).ok = true ∧ tsz E.P e = (azero E.P e).cells.length ∧ (match aElems σ x with
      | some news => (∀ a ∈ news, a.cells.length = tsz E.P e) ∧ (match s with
        | .nl => news.length * tby E.P e ≤ 140737488355328 ∧ news.length ≤ maxLen ∧ (if news.isEmpty = true then K .nl σ else K (.rs σ.next 0 0 news.length) (σ.alloc (.arr e 0 news)))
        | .rs i g off len => (match σ.get i with
          | some (.arr T g' es) => off = 0 ∧ g = g' ∧ T = e ∧ len = es.length ∧ (es.length + news.length) * tby E.P e ≤ 140737488355328 ∧ es.length + news.length ≤ maxLen ∧
              K (.rs i (g + 1) 0 (len + news.length)) (σ.set i (.arr e (g + 1) (es ++ news)))
          | _ => False)
        | _ => False)
      | none => False)
    | _ => False)) := by
  apply propext
  unfold aAppend
  refine and_congr_right fun _ => ?_
  generalize tk E.P t = T
  cases T <;> try exact Iff.rfl
  refine and_congr_right fun _ => and_congr_right fun _ => and_congr_right fun _ => ?_
  generalize aElems σ x = ns
  cases ns <;> try exact Iff.rfl
  rename_i news
  refine and_congr_right fun _ => ?_
  cases s <;> try exact Iff.rfl
  refine and_congr_right fun _ => and_congr_right fun _ => ?_
  cases news <;> simp
end

@[simp] theorem aBuildLit_eq {E : Env} (t : TypeId) (len : Nat) (parts : List (Nat × AV)) (K : AV → Prop) : aBuildLit E t len parts K = (match tk E.P t with
  | .slc e => tsz E.P e ≠ 0 ∧ len * tsz E.P e ≤ 16777216 ∧ (azero E.P e).ok = true ∧ tsz E.P e = (azero E.P e).cells.length ∧ (∀ p ∈ parts, p.1 < len ∧ p.2.ok = true ∧ p.2.cells.length = tsz E.P e) ∧
      tk E.P e = .int .u8 ∧ parts.foldl (fun es p => es.set p.1 p.2) (List.replicate len (azero E.P e)) = ((parts.foldl (fun es p => es.set p.1 p.2) (List.replicate len (azero E.P e))).map AV.byte).map byteV ∧
      K (.fs ((parts.foldl (fun es p => es.set p.1 p.2) (List.replicate len (azero E.P e))).map AV.byte))
  | _ => False) := by
  apply propext
  unfold aBuildLit
  generalize tk E.P t = T
  cases T <;> try exact Iff.rfl
  refine and_congr_right fun _ => and_congr_right fun _ => and_congr_right fun _ => and_congr_right fun _ => and_congr_right fun _ => and_congr_right fun _ => ?_
  constructor
  · rintro ⟨l, h1, h2⟩
    have : (l.map byteV).map AV.byte = l := map_byte_byteV l
    rw [h1, this]
    exact ⟨rfl, h2⟩
  · rintro ⟨h1, h2⟩
    exact ⟨_, h1, h2⟩
attribute [simp] AV.byte AV.isByte

/-! #### Regions that draw their order -/
section
variable {E : Env} {ow : List Nat} {N : Nat} {ops : Array Oper} {σ : Store}

def byVal (o : Oper) : Bool := match o.op with
  | .call c => (match c.callee with
    | .value _ => true
    | .invoke .. => true
    | _ => false)
  | .next .. => true
  | .binOp _ _ _ y _ => isNil y
  | _ => false

theorem aLoadC_det {P : Program} {t : TypeId} {cs : List AV} {K : AV → Prop} (h : aLoadC P t cs K) : ∃ a, (∀ K' : AV → Prop, K' a → aLoadC P t cs K') ∧ K a := by
  unfold aLoadC at *
  obtain ⟨h0, h⟩ := h
  by_cases hA : (tk P t).agg = true
  · rw [if_pos hA] at h
    exact ⟨_, fun K' hk => ⟨h0, by rw [if_pos hA]; exact ⟨h.1, h.2.1, hk⟩⟩, h.2.2⟩
  · rw [if_neg hA] at h
    cases cs with
    | nil => exact h.elim
    | cons x cs => exact ⟨x, fun K' hk => ⟨h0, by rw [if_neg hA]; exact hk⟩, h⟩

theorem aAppend_det {t u : TypeId} {s x : AV} {σ : Store} {K : AV → Store → Prop} (h : aAppend E t u s x σ K) : ∃ a σ', aAppend E t u s x σ (fun x y => x = a ∧ y = σ') ∧ K a σ' := by
  unfold aAppend at *
  obtain ⟨h0, h⟩ := h
  split at h
  · obtain ⟨h1, h2, h3, h⟩ := h
    split at h
    · rename_i news hn
      obtain ⟨h4, h⟩ := h
      split at h
      · obtain ⟨h5, h6, h7, h8⟩ := h
        by_cases hne : news = []
        · exact ⟨_, _, ⟨h0, h1, h2, h3, h4, h5, h6, fun _ => ⟨rfl, rfl⟩, fun h => absurd hne h⟩, h7 hne⟩
        · exact ⟨_, _, ⟨h0, h1, h2, h3, h4, h5, h6, fun h => absurd h hne, fun _ => ⟨rfl, rfl⟩⟩, h8 hne⟩
      · split at h
        · obtain ⟨h5, h6, h7, h8, h9, h10, h⟩ := h
          exact ⟨_, _, ⟨h0, h1, h2, h3, h4, h5, h6, h7, h8, h9, h10, rfl, rfl⟩, h⟩
        · exact h.elim
      · exact h.elim
    · exact h.elim
  · exact h.elim

theorem aAppendP_det {t u : TypeId} {i g off len T : Nat} {es : List AV} {x : AV} {σ : Store} {K : AV → Store → Prop} (h : aAppendP E t u i g off len T es x σ K) : ∃ a σ', aAppendP E t u i g off len T es x σ (fun x y => x = a ∧ y = σ') ∧ K a σ' := by
  unfold aAppendP at *
  obtain ⟨h0, h⟩ := h
  split at h
  · obtain ⟨h1, h2, h3, h⟩ := h
    split at h
    · exact ⟨_, _, ⟨h0, h1, h2, h3, h.1, h.2.1, rfl, rfl⟩, h.2.2⟩
    · exact h.elim
  · exact h.elim

theorem aAppendC_det {t u : TypeId} {i g off len cap T : Nat} {es : List AV} {x : AV} {σ : Store} {K : AV → Store → Prop} (h : aAppendC E t u i g off len cap T es x σ K) : ∃ a σ', aAppendC E t u i g off len cap T es x σ (fun x y => x = a ∧ y = σ') ∧ K a σ' := by
  unfold aAppendC at *
  obtain ⟨h0, h⟩ := h
  split at h
  · obtain ⟨h1, h2, h3, h4, h5, h⟩ := h
    split at h
    · obtain ⟨k1, k2, k3, k4, k⟩ := h
      exact ⟨_, _, ⟨h0, h1, h2, h3, h4, h5, k1, k2, k3, k4, rfl, rfl⟩, k⟩
    · exact h.elim
  · exact h.elim

theorem aAppendM_det {t : TypeId} {i g off len cap T : Nat} {es : List AV} {k : Int} {σ : Store} {K : AV → Store → Prop} (h : aAppendM E t i g off len cap T es k σ K) : ∃ a σ', aAppendM E t i g off len cap T es k σ (fun x y => x = a ∧ y = σ') ∧ K a σ' := by
  unfold aAppendM at *
  split at h
  · obtain ⟨h1, h2, h3, h4, h5, k1, k2, k3, k4, k⟩ := h
    exact ⟨_, _, ⟨h1, h2, h3, h4, h5, k1, k2, k3, k4, rfl, rfl⟩, k⟩
  · exact h.elim

theorem aAppendL_det {t u : TypeId} {s x : AV} {σ : Store} {K : AV → Store → Prop} (h : aAppendL E t u s x σ K) : ∃ a σ', aAppendL E t u s x σ (fun x y => x = a ∧ y = σ') ∧ K a σ' := by
  unfold aAppendL at *
  obtain ⟨h0, h⟩ := h
  split at h
  · obtain ⟨h1, h2, h3, h⟩ := h
    split at h
    · rename_i news hn
      obtain ⟨h4, h⟩ := h
      split at h
      · obtain ⟨h5, h6, h7, h8⟩ := h
        by_cases hne : news = []
        · exact ⟨_, _, ⟨h0, h1, h2, h3, h4, h5, h6, fun _ => ⟨rfl, rfl⟩, fun h => absurd hne h⟩, h7 hne⟩
        · exact ⟨_, _, ⟨h0, h1, h2, h3, h4, h5, h6, fun h => absurd h hne, fun _ => ⟨rfl, rfl⟩⟩, h8 hne⟩
      · split at h
        · obtain ⟨h5, h6, h7, h8, h⟩ := h
          exact ⟨_, _, ⟨h0, h1, h2, h3, h4, h5, h6, h7, h8, rfl, rfl⟩, h⟩
        · exact h.elim
      · exact h.elim
    · exact h.elim
  · exact h.elim

theorem aAppend2_det {own : Nat} {t u : TypeId} {s x : AV} {σ : Store} {K : AV → Store → Prop} (h : aAppend2 E own t u s x σ K) : ∃ a σ', aAppend2 E own t u s x σ (fun x y => x = a ∧ y = σ') ∧ K a σ' := by
  unfold aAppend2 at *
  split at h
  · split at h
    · obtain ⟨hg, h⟩ := h
      split at h
      · rename_i hc
        obtain ⟨a, σ', h1, h2⟩ := aAppend_det h
        exact ⟨a, σ', ⟨hg, by rw [if_pos hc]; exact h1⟩, h2⟩
      · rename_i hc
        split at h
        · obtain ⟨a, σ', h1, h2⟩ := aAppendM_det h
          exact ⟨a, σ', ⟨hg, by rw [if_neg hc]; exact h1⟩, h2⟩
        · obtain ⟨a, σ', h1, h2⟩ := aAppendC_det h
          exact ⟨a, σ', ⟨hg, by rw [if_neg hc]; exact h1⟩, h2⟩
    · exact h.elim
  · split at h
    · split at h
      · rename_i hc
        obtain ⟨a, σ', h1, h2⟩ := aAppend_det h
        exact ⟨a, σ', by rw [if_pos hc]; exact h1, h2⟩
      · rename_i hc
        obtain ⟨a, σ', h1, h2⟩ := aAppendP_det h.2
        exact ⟨a, σ', by rw [if_neg hc]; exact ⟨h.1, h1⟩, h2⟩
    · exact h.elim
  · split at h
    · rename_i hc
      obtain ⟨a, σ', h1, h2⟩ := aAppend_det h
      exact ⟨a, σ', by simp only [if_pos hc]; exact h1, h2⟩
    · rename_i hc
      obtain ⟨a, σ', h1, h2⟩ := aAppendL_det h
      exact ⟨a, σ', by simp only [if_neg hc]; exact h1, h2⟩
  · exact aAppendL_det h
  · exact h.elim

theorem aConv_det {own : Nat} {s d : TypeId} {x : AV} {σ : Store} {K : AV → Store → Prop} (h : aConv E own s d x σ K) : ∃ a σ', aConv E own s d x σ (fun x y => x = a ∧ y = σ') ∧ K a σ' := by
  unfold aConv at *
  obtain ⟨h0, h⟩ := h
  split at h
  · split at h
    · exact ⟨_, _, ⟨h0, rfl, rfl⟩, h⟩
    · exact h.elim
  · split at h
    · exact ⟨_, _, ⟨h0, rfl, rfl⟩, h⟩
    · exact ⟨_, _, ⟨h0, rfl, rfl⟩, h⟩
    · split at h
      · obtain ⟨h1, h⟩ := h
        split at h
        · exact ⟨_, _, ⟨h0, h1, h.1, rfl, rfl⟩, h.2⟩
        · exact h.elim
      · exact h.elim
  · split at h
    · obtain ⟨h1, h2, h3, h⟩ := h
      by_cases ho : own = 1
      · simp only [if_pos ho] at h ⊢
        exact ⟨_, _, ⟨h0, h1, h2, h3, rfl, rfl⟩, h⟩
      · simp only [if_neg ho] at h ⊢
        by_cases ho2 : own = 2
        · simp only [if_pos ho2] at h ⊢
          exact ⟨_, _, ⟨h0, h1, h2, h3, rfl, rfl⟩, h⟩
        · simp only [if_neg ho2] at h ⊢
          exact ⟨_, _, ⟨h0, h1, h2, h3, rfl, rfl⟩, h⟩
    · obtain ⟨h1, h2, h⟩ := h
      exact ⟨_, _, ⟨h0, h1, h2, rfl, rfl⟩, h⟩
    · exact h.elim
  · exact h.elim
/-- Every operation but a call has one answer. -/
theorem opK_det {o : Oper} {f : Nat → AV} {K : AV → Store → Prop} (hb : byVal o = false) (h : opK E ow o f σ K) : ∃ a σ', opK E ow o f σ (fun x y => x = a ∧ y = σ') ∧ K a σ' := by
  obtain ⟨dst, op, ty, pos, after, guard⟩ := o
  cases op <;> simp only [opK] at h ⊢ <;> try exact opX_det (by intro it s; try (rintro ⟨⟩); try (simp [byVal] at hb)) h
  case move x => exact ⟨_, _, ⟨rfl, rfl⟩, h⟩
  case assign x =>
    split at h
    · rename_i hc
      split at h
      · rename_i e ht
        exact ⟨_, _, by rw [if_pos hc]; exact ⟨rfl, rfl⟩, h⟩
      · exact h.elim
    · rename_i hc
      split at h
      · rename_i hc2
        split at h
        · rename_i e ht
          exact ⟨_, _, by rw [if_neg hc, if_pos hc2]; exact ⟨rfl, rfl⟩, h⟩
        · exact h.elim
      · rename_i hc2
        exact ⟨_, _, by rw [if_neg hc, if_neg hc2]; exact ⟨rfl, rfl⟩, h⟩
  case pick c a b =>
    split at h
    · exact ⟨_, _, ⟨rfl, rfl⟩, h⟩
    · exact h.elim
  case alloc t =>
    unfold aAlloc aBox at *
    exact ⟨_, _, ⟨h.1, h.2.1, rfl, rfl⟩, h.2.2⟩
  case box t x =>
    unfold aBox at *
    exact ⟨_, _, ⟨h.1, h.2.1, rfl, rfl⟩, h.2.2⟩
  case build t ps =>
    unfold aBuild at *
    split at h
    · split at h
      · exact ⟨_, _, ⟨rfl, rfl⟩, h⟩
      · exact h.elim
    · exact h.elim
  case buildSlice t n ps =>
    cases hlit : (dst.map fun d => ow.contains (d + 1000000)).getD false
    · simp only [hlit, Bool.false_eq_true, if_false] at h ⊢
      unfold aBuildSlice at *
      split at h
      · obtain ⟨h1, h2, h3, h4, h5, h⟩ := h
        by_cases ho : ownN ow dst = 1
        · simp only [if_pos ho] at h ⊢
          exact ⟨_, _, ⟨h1, h2, h3, h4, h5, rfl, rfl⟩, h⟩
        · simp only [if_neg ho] at h ⊢
          by_cases ho2 : ownN ow dst = 2
          · simp only [if_pos ho2] at h ⊢
            exact ⟨_, _, ⟨h1, h2, h3, h4, h5, rfl, rfl⟩, h⟩
          · simp only [if_neg ho2] at h ⊢
            by_cases h0 : n = 0
            · rw [if_pos h0] at h
              simp only [if_pos h0]
              exact ⟨_, _, ⟨h1, h2, h3, h4, h5, rfl, rfl⟩, h⟩
            · rw [if_neg h0] at h
              simp only [if_neg h0]
              exact ⟨_, _, ⟨h1, h2, h3, h4, h5, rfl, rfl⟩, h⟩
      · exact h.elim
    · simp only [hlit, if_true] at h ⊢
      unfold aBuildLit at *
      split at h
      · obtain ⟨h1, h2, h3, h4, h5, h6, l, h7, h⟩ := h
        exact ⟨_, _, ⟨h1, h2, h3, h4, h5, h6, l, h7, rfl, rfl⟩, h⟩
      · exact h.elim
  case load t x =>
    unfold aLoad at *
    split at h
    · obtain ⟨a, h1, h2⟩ := aLoadC_det h
      exact ⟨a, σ, h1 _ ⟨rfl, rfl⟩, h2⟩
    · split at h
      · obtain ⟨hg, h⟩ := h
        split at h
        · obtain ⟨a, h1, h2⟩ := aLoadC_det h
          exact ⟨a, σ, ⟨hg, h1 _ ⟨rfl, rfl⟩⟩, h2⟩
        · exact h.elim
      · exact h.elim
    · exact h.elim
  case store t x y =>
    unfold aStore at *
    split at h
    · split at h
      · obtain ⟨h1, h2, h3, h4, h⟩ := h
        split at h
        · exact ⟨_, _, ⟨h1, h2, h3, h4, rfl, rfl⟩, h⟩
        · exact h.elim
      · exact h.elim
    · exact h.elim
  case nilCheck x =>
    unfold aNil at *
    split at h <;> first | exact h.elim | exact ⟨_, _, ⟨rfl, rfl⟩, h⟩
  case binOp op t x y yt =>
    have hnil : isNil y = false := by simpa [byVal] using hb
    simp only [hnil, Bool.false_eq_true, if_false] at h ⊢
    unfold aBin at *
    split at h
    · obtain ⟨h1, h⟩ := h
      split at h <;> first | exact h.elim | exact ⟨_, _, ⟨h1, rfl, rfl⟩, h⟩
    · split at h <;> first | exact h.elim | exact ⟨_, _, ⟨rfl, rfl⟩, h⟩
    · exact h.elim
  case unOp op t x =>
    unfold aUn at *
    split at h <;> first | exact h.elim | exact ⟨_, _, ⟨rfl, rfl⟩, h⟩
  case convert s d x =>
    unfold aConv2 at *
    split at h
    · split at h
      · rename_i ho
        obtain ⟨h0, h⟩ := h
        split at h
        · obtain ⟨h1, h2, h3, h4, h⟩ := h
          exact ⟨_, _, by rw [if_pos ho]; exact ⟨h0, h1, h2, h3, h4, rfl, rfl⟩, h⟩
        · exact h.elim
      · rename_i ho
        obtain ⟨a, σ', h1, h2⟩ := aConv_det h
        exact ⟨a, σ', by simp only [if_neg ho]; exact h1, h2⟩
    · exact aConv_det h
  case makeInterface t x => exact ⟨_, _, ⟨h.1, h.2.1, rfl, rfl⟩, h.2.2⟩
  case makeFunc fn first cap => exact ⟨_, _, ⟨rfl, rfl⟩, h⟩
  case makeSlice t l c =>
    unfold aMakeSlice at *
    split at h
    · obtain ⟨h1, h2, h3, h4, h5, h6, h7, h⟩ := h
      exact ⟨_, _, ⟨h1, h2, h3, h4, h5, h6, h7, rfl, rfl⟩, h⟩
    · exact h.elim
  case slice t x lo hi mx =>
    split at h
    · rename_i hmx
      by_cases hA : (tk E.P t).isArr = true
      · simp only [if_pos hA] at h ⊢
        exact aSliceA_det h
      simp only [if_neg hA] at h ⊢
      unfold aSlice at *
      split at h
      · exact h.elim
      · split at h
        · split at h
          · obtain ⟨h1, h2, h3, h⟩ := h
            exact ⟨_, _, ⟨h1, h2, h3, rfl, rfl⟩, h⟩
          · exact h.elim
        · split at h
          · obtain ⟨h1, h2, h3, h4, h5, h⟩ := h
            exact ⟨_, _, ⟨h1, h2, h3, h4, h5, rfl, rfl⟩, h⟩
          · exact h.elim
        · split at h
          · split at h
            · obtain ⟨h1, h2, h3, h4, h5, h6, h⟩ := h
              exact ⟨_, _, ⟨h1, h2, h3, h4, h5, h6, rfl, rfl⟩, h⟩
            · exact h.elim
          · exact h.elim
        · split at h
          · split at h
            · obtain ⟨h1, h2, h3, h4, h5, h6, h⟩ := h
              exact ⟨_, _, ⟨h1, h2, h3, h4, h5, h6, rfl, rfl⟩, h⟩
            · exact h.elim
          · exact h.elim
        · split at h
          · obtain ⟨h1, h2, h3, h⟩ := h
            exact ⟨_, _, ⟨h1, h2, h3, rfl, rfl⟩, h⟩
          · exact h.elim
        · exact h.elim
    · unfold aSlice3 at *
      split at h
      · obtain ⟨h1, h2, h3, h4, h5, h⟩ := h
        exact ⟨_, _, ⟨h1, h2, h3, h4, h5, rfl, rfl⟩, h⟩
      · exact h.elim
  case fieldAddr t x i =>
    unfold aFieldAddr at *
    split at h
    · split at h <;> first | exact h.elim | exact ⟨_, _, ⟨rfl, rfl⟩, h⟩
    · exact h.elim
  case field t x i =>
    unfold aField at *
    split at h
    · obtain ⟨a, h1, h2⟩ := aLoadC_det h
      exact ⟨a, σ, h1 _ ⟨rfl, rfl⟩, h2⟩
    · exact h.elim
  case indexAddr t x i =>
    unfold aIndexAddr at *
    split at h
    · obtain ⟨h0, h⟩ := h
      split at h
      · obtain ⟨h1, a, h2, h3, h⟩ := h
        exact ⟨_, _, ⟨h0, h1, a, h2, h3, rfl, rfl⟩, h⟩
      · obtain ⟨h1, h⟩ := h
        split at h
        · obtain ⟨h2, h3, h4, h⟩ := h
          exact ⟨_, _, ⟨h0, h1, h2, h3, h4, rfl, rfl⟩, h⟩
        · exact h.elim
      · obtain ⟨h1, h2, h⟩ := h
        exact ⟨_, _, ⟨h0, h1, h2, rfl, rfl⟩, h⟩
      · exact h.elim
    · exact h.elim
  case index t x i =>
    unfold aIndex at *
    split at h
    · obtain ⟨h0, h⟩ := h
      split at h
      · exact ⟨_, _, ⟨h0, h.1, rfl, rfl⟩, h.2⟩
      · obtain ⟨h1, h2, h5⟩ := h
        obtain ⟨a, h3, h4⟩ := aLoadC_det h2
        exact ⟨a, σ, ⟨h0, h1, h3 _ ⟨rfl, rfl⟩, h5⟩, h4⟩
      · exact h.elim
    · exact h.elim
  case extract x i =>
    split at h
    · split at h
      · exact ⟨_, _, ⟨rfl, rfl⟩, h⟩
      · exact h.elim
    · exact h.elim
  case call c =>
    obtain ⟨callee, args, argTypes⟩ := c
    unfold aCall at *
    simp only [byVal] at hb
    cases callee with
    | value g => simp at hb
    | invoke r m => simp at hb
    | builtin b =>
      cases b <;> simp only at h ⊢ <;> try exact h.elim
      case append =>
        split at h
        · exact aAppend2_det h
        · exact h.elim
      case cap =>
        split at h
        · unfold aCap at *
          split at h <;> first | exact h.elim | exact ⟨_, _, ⟨rfl, rfl⟩, h⟩
        · exact h.elim
      case delete =>
        split at h
        · exact aMapDel_det h
        · exact h.elim
      case clear =>
        split at h
        · unfold aClear at *
          split at h
          · obtain ⟨h1, h2, h3, h⟩ := h
            split at h
            · obtain ⟨h4, h5, h6, h⟩ := h
              exact ⟨_, _, ⟨h1, h2, h3, h4, h5, h6, rfl, rfl⟩, h⟩
            · exact h.elim
          · exact h.elim
        · exact h.elim
      case copy =>
        split at h
        · unfold aCopy at *
          split at h
          · obtain ⟨h1, h⟩ := h
            split at h
            · obtain ⟨h4, h5, h6, h7, h⟩ := h
              exact ⟨_, _, ⟨h1, h4, h5, h6, h7, rfl, rfl⟩, h⟩
            · exact h.elim
          · exact h.elim
        · exact h.elim
      case len =>
        split at h
        · unfold aLen at *
          split at h <;> first | exact h.elim | exact ⟨_, _, ⟨rfl, rfl⟩, h⟩ | skip
          split at h
          · exact ⟨_, _, ⟨rfl, rfl⟩, h⟩
          · exact h.elim
        · exact h.elim
      case max =>
        split at h
        · exact ⟨_, _, ⟨rfl, rfl⟩, h⟩
        · exact h.elim
      case min =>
        split at h
        · exact ⟨_, _, ⟨rfl, rfl⟩, h⟩
        · exact h.elim

def opR (E : Env) (ow : List Nat) (o : Oper) (f : Nat → AV) (σ : Store) (K : AV → Prop) : Prop :=
  if byVal o = true then ∃ a, opK E ow o f σ (fun a' σ' => a' = a ∧ σ' = σ) ∧ K a else opK E ow o f σ fun a σ' => σ' = σ ∧ K a

theorem opR_ok {o : Oper} {f : Nat → AV} {K : AV → Prop} (h : opR E ow o f σ K) : ∃ a, opK E ow o f σ (fun a' σ' => a' = a ∧ σ' = σ) ∧ K a := by
  unfold opR at h
  split at h
  · exact h
  · rename_i hb
    obtain ⟨a, σ', h1, rfl, h2⟩ := opK_det (by simpa using hb) h
    exact ⟨a, h1, h2⟩

/-- The walk through such a region, in the order of the text. -/
def aopsR (E : Env) (ow : List Nat) (N : Nat) (ops : Array Oper) (σ : Store) (Q : (Nat → AV) → Prop) : List Oper → (Nat → AV) → Prop
  | [], f => Q f
  | o :: l, f => match aGuard ops f o with
    | some g => (g = true → opR E ow o f σ fun a => aput N f o.dst a fun f' => aopsR E ow N ops σ Q l f') ∧ (g = false → aput N f o.dst (.tup []) fun f' => aopsR E ow N ops σ Q l f')
    | none => False

theorem aopsR_ok {Q : (Nat → AV) → Prop} : ∀ (l : List Oper) (f : Nat → AV), aopsR E ow N ops σ Q l f → aopsQ E ow N ops σ Q l f
  | [], f, h => h
  | o :: l, f, h => by
    unfold aopsR at h
    unfold aopsQ
    cases hg : aGuard ops f o with
    | none => rw [hg] at h; exact h.elim
    | some g =>
      rw [hg] at h
      refine ⟨fun hg => ?_, fun hg => aput_mono (fun f' hf => aopsR_ok l f' hf) (h.2 hg)⟩
      obtain ⟨a, h1, h2⟩ := opR_ok (h.1 hg)
      exact ⟨a, h1, aput_mono (fun f' hf => aopsR_ok l f' hf) h2⟩

def kontR (E : Env) (ow : List Nat) (N : Nat) (ops : Array Oper) (σ : Store) (Q : (Nat → AV) → Prop) (l : List Oper) (d : Option Tmp) (f : Nat → AV) (a : AV) : Prop := aput N f d a fun f' => aopsR E ow N ops σ Q l f'
@[simp] theorem kontR_some (Q : (Nat → AV) → Prop) (l : List Oper) (d : Tmp) (f : Nat → AV) (a : AV) : kontR E ow N ops σ Q l (some d) f a = (d < N ∧ aopsR E ow N ops σ Q l (upd f d a)) := (rfl)
@[simp] theorem kontR_none (Q : (Nat → AV) → Prop) (l : List Oper) (f : Nat → AV) (a : AV) : kontR E ow N ops σ Q l none f a = aopsR E ow N ops σ Q l f := (rfl)
def kontS (σ : Store) (K : AV → Prop) (a : AV) (σ' : Store) : Prop := σ' = σ ∧ K a
@[simp] theorem kontS_apply (K : AV → Prop) (a : AV) (σ' : Store) : kontS σ K a σ' = (σ' = σ ∧ K a) := (rfl)

def stuckR (b : Option Bool) (E : Env) (ow : List Nat) (N : Nat) (ops : Array Oper) (σ : Store) (Q : (Nat → AV) → Prop) (o : Oper) (l : List Oper) (f : Nat → AV) : Prop :=
  match b with
  | some g => (g = true → opR E ow o f σ (kontR E ow N ops σ Q l o.dst f)) ∧ (g = false → kontR E ow N ops σ Q l o.dst f (.tup []))
  | none => False

@[simp] theorem aopsR_nil (Q : (Nat → AV) → Prop) (f : Nat → AV) : aopsR E ow N ops σ Q [] f = Q f := (rfl)
@[simp] theorem aopsR_cons (Q : (Nat → AV) → Prop) (o : Oper) (l : List Oper) (f : Nat → AV) :
    aopsR E ow N ops σ Q (o :: l) f = if aGuard ops f o = some true then opR E ow o f σ (kontR E ow N ops σ Q l o.dst f) else if aGuard ops f o = some false then kontR E ow N ops σ Q l o.dst f (.tup []) else stuckR (aGuard ops f o) E ow N ops σ Q o l f := by
  apply propext
  rw [aopsR]
  unfold stuckR
  cases aGuard ops f o with
  | none => simp
  | some g =>
    cases g
    · simp [kontR]
    · simp only [if_true]
      simp only [Bool.true_eq_false, forall_const, false_implies, and_true, true_implies]
      exact Iff.rfl

def opRc (E : Env) (ow : List Nat) (o : Oper) (f : Nat → AV) (σ : Store) (K : AV → Prop) : Prop := ∃ a, opK E ow o f σ (fun a' σ' => a' = a ∧ σ' = σ) ∧ K a
@[simp] theorem opR_eq (o : Oper) (f : Nat → AV) (K : AV → Prop) : opR E ow o f σ K = (match o.op with
  | .call c => (match c.callee with
    | .value _ => opRc E ow o f σ K
    | .invoke .. => opRc E ow o f σ K
    | _ => opK E ow o f σ (kontS σ K))
  | .next .. => opRc E ow o f σ K
  | .binOp op t x y _ => if isNil y = true then ∃ a, (aNilEq E op t (aeval E.G f x).rd fun a' => a' = a) ∧ K a else opK E ow o f σ (kontS σ K)
  | _ => opK E ow o f σ (kontS σ K)) := by
  apply propext
  obtain ⟨dst, op, ty, pos, after, guard⟩ := o
  unfold opR
  cases op <;> try first | (simp only [byVal, Bool.false_eq_true, if_false]; rfl) | (simp only [byVal, if_true]; rfl)
  case binOp op t x y yt =>
    by_cases hn : isNil y = true
    · refine Iff.trans (iff_of_eq (if_pos (show byVal ⟨dst, .binOp op t x y yt, ty, pos, after, guard⟩ = true from hn))) (Iff.trans ?_ (iff_of_eq (if_pos hn)).symm)
      simp only [opK, if_pos hn, and_true]
    · refine Iff.trans (iff_of_eq (if_neg (show ¬ byVal ⟨dst, .binOp op t x y yt, ty, pos, after, guard⟩ = true from hn))) (Iff.trans ?_ (iff_of_eq (if_neg hn)).symm)
      exact Iff.rfl
  rename_i c
  obtain ⟨callee, args, argTypes⟩ := c
  cases callee <;> first | (simp only [byVal, Bool.false_eq_true, if_false]; rfl) | (simp only [byVal, if_true]; rfl)
end

section
variable {E : Env} {n N : Nat} {f : Nat → AV} {σ : Store} {Q : AExit → (Nat → AV) → Store → Prop}
theorem AW.drawR (ow : List Nat) {id : Nat} {l : List Oper} (hm : E.P.follows .mixedOrders = true) (hB : Region.lexFrom .any l.toArray l.length 0 (Array.replicate l.length false) = true) (h : aopsR E ow N l.toArray σ (fun f => Q .normal f σ) l f) :
    AW E n N (.region id l.toArray true) f σ Q := AW.draw ow hm hB (aopsR_ok l f h)

theorem AW.stepR (ow l : List Nat) {id : Nat} {ops : List Oper} {d : Code} (hm : E.P.follows .mixedOrders = true) (hB : Region.lexFrom .any ops.toArray ops.length 0 (Array.replicate ops.length false) = true)
    (h : ∀ K : List (Nat × AV) → Store → Prop, (∀ L σ, AW E n N d (fr L) σ Q → K L σ) → aopsR E ow N ops.toArray σ (fun f => K (pick l f) σ) ops f) :
    AW E n N (.seq (.region id ops.toArray true) d) f σ Q :=
  AW.seqL l fun K hK => AW.drawR ow hm hB (h K hK)
end
end Go.AW
