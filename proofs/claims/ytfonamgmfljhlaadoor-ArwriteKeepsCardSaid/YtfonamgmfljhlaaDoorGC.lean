/- Merged texts, in order: More rules of the walk: scopes, results written down otherwise, a nil slice taken into the store; bytes and strings as lists. No condition. | The steps of a walk that keep only the variables which are read later. No condition. | The conditions of the operations once more, so that a simplifier meets what follows an operation only when its value is known. No condition. | Regions that draw the order of their operations, some of which change the store. No condition. | What a cell of an object of the store holds, written down otherwise: a nil slice taken into the store, a row that is written no more. No condition. | Long regions that draw their order and leave the store alone: the walk keeps only what is read later. No condition. | A call whose arguments are rows of the store that the callee only reads: written down otherwise ahead of the call. No condition. | Regions that draw their order, with an operation that makes a variable and may come up anywhere: one walk for each place. No condition. -/
import Derived.Test.YtfonamgmfljhlaaDoorGI
import Derived.Scope
import Derived.KernelRfl
import Derived.Laws.BitsLemmas
section
set_option linter.unusedVariables false
set_option linter.unusedSimpArgs false
set_option linter.unnecessarySimpa false
namespace Go.AW
open Go

section
variable {E : Env} {n N : Nat} {f : Nat → AV} {σ : Store} {Q : AExit → (Nat → AV) → Store → Prop}

def ANoGoto (Q : AExit → (Nat → AV) → Store → Prop) : AExit → (Nat → AV) → Store → Prop
  | .goto _, _, _ => False
  | e, f, σ => Q e f σ

theorem wpIn_scope_straight {F : Fence} {m : Nat} {P : Program} {R : Exit → Act → World → Prop} {a : Act} {w : World} {c : Code} (h : c.wpIn F m P (Exit.noGoto R) a w) : (Code.scope c).wpIn F m P R a w := by
  intro b k cs hro hb hr
  have s1 : step P (lone (b.atR a (.code (.scope c) :: k)) cs w) = .next (lone (b.atR a (.code c :: .inScope c :: k)) cs w) := step_lone_go (by simp [stepG, stepG.exec, Frame.atR])
  have s2 : ∀ a w, step P (lone (b.atR a (.inScope c :: k)) cs w) = .next (lone (b.atR a k) cs w) := fun a w => step_lone_go (by simp [stepG, stepG.exec, Frame.atR])
  have h0 : (lone (b.atR a (.code (.scope c) :: k)) cs w).fenced P F := fenced_calm hb hr rfl
  obtain ⟨e, a₁, w₁, hq, harr⟩ := h b (.inScope c :: k) cs hro hb hr
  cases e with
  | normal => exact ⟨.normal, a₁, w₁, hq, .head h0 s1 (StepsIn.trans harr (.one (fenced_calm (fr := b.atR a₁ (.inScope c :: k)) hb hr rfl) (s2 _ _)))⟩
  | exit id =>
    have hx : exitTo id (.inScope c :: k) = exitTo id k := by simp [exitTo]
    exact ⟨.exit id, a₁, w₁, hq, fun k' hk => .head h0 s1 (harr.1 k' (by rw [hx]; exact hk)), fun hr' hk => let ⟨k₁, h1, h2⟩ := harr.2 hr' (by rw [hx]; exact hk); ⟨k₁, h1, .head h0 s1 h2⟩⟩
  | goto l => exact hq.elim
  | ret => exact ⟨_, a₁, w₁, hq, .of_steps (.one h0 s1) harr⟩
  | panic ch => exact ⟨_, a₁, w₁, hq, .of_steps (.one h0 s1) harr⟩
  | outgrown => exact ⟨_, a₁, w₁, hq, .of_steps (.one h0 s1) harr⟩

theorem AW.scope {c : Code} (h : AW E n N c f σ (ANoGoto Q)) : AW E n N (.scope c) f σ Q := by
  intro rd ds0 Γ w a hrd hn hr ht hd
  refine wpIn_scope_straight (wpIn_mono (h rd ds0 Γ w a hrd hn hr ht hd) ?_)
  rintro e a' w' (⟨Γ', f', σ', x, h1, h2, h3, h4, h5, h6⟩ | ⟨v, rfl, h⟩)
  · cases x <;> cases e <;> first | exact h1.elim | exact h6.elim | exact .inl ⟨Γ', f', σ', _, h1, h2, h3, h4, h5, h6⟩
  · exact .inr ⟨v, rfl, h⟩

/-- A nil slice taken into the store, to be grown there. -/
theorem AW.adopt {c : Code} (t : Nat) (T : TypeId) (ht : f t = .nl) (htN : t < N) (h : AW E n N c (upd f t (.rs σ.next 0 0 0)) (σ.alloc (.arr T 0 [])) Q) : AW E n N c f σ Q := by
  intro rd ds0 Γ w a hrd hn hr hT hd
  have hg : w.grownBy w none := ⟨rfl, rfl, rfl, Nat.le_refl _, fun _ _ _ => rfl⟩
  obtain ⟨hx, hR⟩ := hr.new (o' := .arr T 0 []) (l' := ⟨none, tsz E.P T, 0, 0, none⟩) hg (.inl rfl) rfl (by
    intro hx
    exact ⟨rfl, rfl, by simp, by simp, Nat.zero_le _, rfl, rfl⟩)
  have hsz := hT.size
  have hv : VR (Γ.alloc ⟨none, tsz E.P T, 0, 0, none⟩) w (.rs σ.next 0 0 0) (a.tmps.getD t Go.undef) := by
    have hv0 := hT.rel t htN
    rw [ht] at hv0
    generalize a.tmps.getD t Go.undef = v at hv0
    cases hv0 with
    | nl ad =>
      refine .rs σ.next 0 0 0 ad 0 (by simp [Ctx.alloc, hr.next]) (Nat.le_refl _) fun l hl => ?_
      simp [Ctx.alloc, hr.next] at hl
      subst hl
      exact ⟨Nat.zero_le _, fun _ => ⟨rfl, rfl, rfl⟩⟩
  have hT' : TR N (Γ.alloc ⟨none, tsz E.P T, 0, 0, none⟩) w (upd f t (.rs σ.next 0 0 0)) a.tmps := by
    have h0 := hT.ext hx
    refine ⟨hT.size, fun s hs => ?_, fun s hs => ?_⟩
    · unfold upd
      split
      · rename_i e; subst e; exact hv
      · exact h0.rel s hs
    · unfold upd
      rw [if_neg (by omega)]; exact hT.far s hs
  exact wpIn_mono (h rd ds0 (Γ.alloc ⟨none, tsz E.P T, 0, 0, none⟩) w a hrd (Nat.le_trans hn hx.le') hR hT' hd) fun e a w' hp => Post.trans (hx.mono hn) hp

end

/-- A contract whose answer, or whose store, is written down otherwise. -/
theorem ACalls.fin {E : Env} {f : FuncId} {args : List AV} {σ : Store} {Q Q' : AV → Store → Prop} (h : ACalls E f args σ Q) (hq : StoreBel σ → ∀ a σ', Q a σ' → Fin σ.next σ' a Q') : ACalls E f args σ Q' := by
  intro Γ w vs hr hv
  refine (h Γ w vs hr hv).mono ?_
  rintro e w' (⟨v, rfl, Γ', a, σ', h1, h2, h3, h4⟩ | h)
  · obtain ⟨a', σ2, k1, k2, k3, k4⟩ := hq hr.storeBel a σ' h4
    obtain ⟨Γ2, m1, m2, m3⟩ := k1.ctx h2
    refine .inl ⟨v, rfl, Γ2, a', σ2, ?_, m2, m3 _ _ _ h3 k2 k3, k4⟩
    rw [← hr.next] at m1
    exact h1.trans m1
  · exact .inr h

/-! ### Bytes and strings as lists -/
def bs (l : List UInt8) : ByteArray := ⟨l.toArray⟩
@[simp] theorem mk_bs (l : List UInt8) : ByteArray.mk l.toArray = bs l := rfl
@[simp] theorem mk_bs' (l : List UInt8) : ByteArray.mk (Array.mk l) = bs l := rfl
@[simp] theorem bs_size (l : List UInt8) : (bs l).size = l.length := by show l.toArray.size = _; simp
@[simp] theorem bs_data (l : List UInt8) : (bs l).data.toList = l := rfl
@[simp] theorem bs_toList (l : List UInt8) : (bs l).toList = l := by
  rw [ByteArray.toList_eq]; rfl
@[simp] theorem bs_append (a b : List UInt8) : bs a ++ bs b = bs (a ++ b) := ByteArray.mk_append_mk a b
@[simp] theorem bs_extract (l : List UInt8) (i j : Nat) : (bs l).extract i j = bs ((l.drop i).take (j - i)) := ByteArray.extract_mk l i j
theorem eq_bs (s : ByteArray) : s = bs s.data.toList := rfl
@[simp] theorem bs_inj (a b : List UInt8) : bs a = bs b ↔ a = b := ⟨fun h => by have := congrArg (fun x => x.data.toList) h; simpa using this, fun h => by rw [h]⟩
@[simp] theorem bAt_bs (l : List UInt8) (n : Int) : bAt (bs l) n = ((l.getD n.toNat 0).toNat : Int) := rfl
/-- The value of a string. -/
def str (l : List UInt8) : AV := .c (.string (bs l))
/-- The value of a slice of bytes that is written no more. -/
def byts (l : List UInt8) : AV := .ps (l.map byteV)
@[simp] theorem map_byte (l : List UInt8) : l.map (AV.byte ∘ byteV) = l := by
  induction l with
  | nil => rfl
  | cons x l ih => simp [ih]

theorem u8_eq (a b : UInt8) : ((a.toNat : Int) == (b.toNat : Int)) = (a == b) := by
  by_cases h : a = b
  · subst h; simp
  · have : a.toNat ≠ b.toNat := fun e => h (UInt8.toNat_inj.1 e)
    have h1 : (a == b) = false := by simpa using h
    rw [h1]; simp; omega

/-- A row that the store owns: what is handed back of it. -/
theorem SR.row {σ σ2 : Store} {i g off len : Nat} {T : TypeId} {es : List AV} {es' : List AV} (hi : σ.get i = some (.arr T g es)) (h2 : σ2.get i = none) (hle : off + len ≤ es.length) (h : (es.drop off).take len = es') : SR σ σ2 (.rs i g off len) (.ps es') := by
  subst h
  have key : ∀ (k : Nat) (a b : AV), es[off + k]? = some a → ((es.drop off).take len)[k]? = some b → a = b := by
    intro k a b ha hb
    rw [List.getElem?_take] at hb
    split at hb
    · rw [List.getElem?_drop, ha] at hb; exact Option.some.inj hb
    · cases hb
  refine .rs i g off len T es _ hi h2 hle (by simp; omega) (fun k a b ha hb => by rw [key k a b ha hb]) fun k a b j x y ha hb hx hy => ?_
  rw [key k a b ha hb, hy] at hx
  exact .of_eq (Option.some.inj hx).symm
end Go.AW
end

section
set_option linter.unusedVariables false
set_option linter.unusedSimpArgs false
set_option linter.unnecessarySimpa false
namespace Go.AW
open Go

section
variable {E : Env} {n N : Nat} {f : Nat → AV} {σ : Store} {Q : AExit → (Nat → AV) → Store → Prop}

/-- Only these variables. -/
def pick (l : List Nat) (f : Nat → AV) : List (Nat × AV) := l.map fun t => (t, f t)
@[simp] theorem pick_nil (f : Nat → AV) : pick [] f = [] := rfl
@[simp] theorem pick_cons (t : Nat) (l : List Nat) (f : Nat → AV) : pick (t :: l) f = (t, f t) :: pick l f := rfl

theorem fr_pick (l : List Nat) (f : Nat → AV) (t : Nat) : fr (pick l f) t = f t ∨ fr (pick l f) t = .junk := by
  induction l with
  | nil => exact .inr rfl
  | cons s l ih =>
    rw [pick_cons]
    unfold fr
    split
    · rename_i h; simp only at h; subst h; exact .inl rfl
    · exact ih

theorem AW.keep {c : Code} (l : List Nat) (h : AW E n N c (fr (pick l f)) σ Q) : AW E n N c f σ Q := by
  intro rd ds0 Γ w a hrd hn hr ht hd
  refine h rd ds0 Γ w a hrd hn hr ⟨ht.size, fun t hlt => ?_, fun t hge => ?_⟩ hd
  · rcases fr_pick l f t with e | e
    · rw [e]; exact ht.rel t hlt
    · rw [e]; exact .junk _
  · rcases fr_pick l f t with e | e
    · rw [e]; exact ht.far t hge
    · exact e

theorem AW.seqL (l : List Nat) {c d : Code} (h : ∀ K : List (Nat × AV) → Store → Prop, (∀ L σ, AW E n N d (fr L) σ Q → K L σ) → AW E n N c f σ (AThen (fun f σ => K (pick l f) σ) Q)) : AW E n N (.seq c d) f σ Q :=
  AW.seq_k fun K hK => AW.mono (h (fun L σ => AW E n N d (fr L) σ Q) fun _ _ h => h) fun e f σ hq => by
    cases e <;> first | exact hK _ _ (AW.keep l hq) | exact hq

theorem AW.stepL (ow l : List Nat) {id : Nat} {ops : List Oper} {d : Code} (h : ∀ K : List (Nat × AV) → Store → Prop, (∀ L σ, AW E n N d (fr L) σ Q → K L σ) → aops E ow N ops.toArray ops f σ fun f σ => K (pick l f) σ) :
    AW E n N (.seq (.region id ops.toArray false) d) f σ Q :=
  AW.seqL l fun K hK => AW.region (ow := ow) (h K hK)

theorem AW.stepDL (ow l : List Nat) {id : Nat} {ops : List Oper} {d : Code} (hm : E.P.follows .mixedOrders = true) (hB : Region.lexFrom .any ops.toArray ops.length 0 (Array.replicate ops.length false) = true)
    (h : ∀ K : List (Nat × AV) → Store → Prop, (∀ L σ, AW E n N d (fr L) σ Q → K L σ) → aopsQ E ow N ops.toArray σ (fun f => K (pick l f) σ) ops f) :
    AW E n N (.seq (.region id ops.toArray true) d) f σ Q :=
  AW.seqL l fun K hK => AW.draw ow hm hB (h K hK)

end
@[simp] theorem alloc_get (σ : Store) (o : AObj) (j : Nat) : (σ.alloc o).get j = if j = σ.next then some o else σ.get j := (rfl)
@[simp] theorem alloc_next (σ : Store) (o : AObj) : (σ.alloc o).next = σ.next + 1 := (rfl)
@[simp] theorem set_get (σ : Store) (i : Nat) (o : AObj) (j : Nat) : (σ.set i o).get j = if j = i then some o else σ.get j := (rfl)
@[simp] theorem set_next (σ : Store) (i : Nat) (o : AObj) : (σ.set i o).next = σ.next := (rfl)
@[simp] theorem set_set (σ : Store) (i : Nat) (o o' : AObj) : (σ.set i o).set i o' = σ.set i o' := by
  unfold Store.set; simp only [Store.mk.injEq, and_true]; funext j; split <;> rfl
@[simp] theorem alloc_set (σ : Store) (o o' : AObj) : (σ.alloc o).set σ.next o' = σ.alloc o' := by
  unfold Store.set Store.alloc; simp only [Store.mk.injEq, and_true]; funext j; split <;> rfl
attribute [simp] byts str
@[simp] theorem ex_map {α β : Type} {p : α → Prop} {f : α → β} {q : β → Prop} : (∃ b, (∃ a, p a ∧ f a = b) ∧ q b) ↔ ∃ a, p a ∧ q (f a) :=
  ⟨fun ⟨_, ⟨a, h, e⟩, k⟩ => ⟨a, h, e ▸ k⟩, fun ⟨a, h, k⟩ => ⟨_, ⟨a, h, rfl⟩, k⟩⟩
@[simp] theorem byteV_eq (b : UInt8) : byteV b = .c (.int .u8 b.toNat) := rfl
@[simp] theorem take_len_map {α β : Type} (l : List α) (f : α → β) : (l.map f).take l.length = l.map f := List.take_of_length_le (by simp)
theorem wrap8_id {x : Int} (h1 : 0 ≤ x) (h2 : x ≤ 255) : IntKind.u8.wrap x = x := by rw [IntKind.wrap_u8]; omega
theorem get_ex {α : Type} {l : List α} {i : Nat} (h : i < l.length) : ∃ c, l[i]? = some c := ⟨_, List.getElem?_eq_getElem h⟩
theorem u8_of_int {c d : UInt8} (h : (c.toNat : Int) = (d.toNat : Int)) : c = d := UInt8.toNat_inj.1 (by omega)
theorem u8_ne_int {c d : UInt8} (h : ¬ (c.toNat : Int) = (d.toNat : Int)) : c ≠ d := fun e => h (by rw [e])
theorem u8_toNat_eq (a : UInt8) (n : Nat) (hn : n < 256) : (a.toNat = n) = (a = UInt8.ofNat n) := by
  apply propext
  constructor
  · intro h; subst h; simp
  · intro h; subst h; simp; omega
end Go.AW
end

section
set_option linter.unusedVariables false
set_option linter.unusedSimpArgs false
set_option linter.unnecessarySimpa false
namespace Go.AW
open Go

section
variable {E : Env} {ow : List Nat} {N : Nat} {ops : Array Oper}

def at1 (K : AV → Store → Prop) (σ : Store) (a : AV) : Prop := K a σ
@[simp] theorem at1_apply (K : AV → Store → Prop) (σ : Store) (a : AV) : at1 K σ a = K a σ := (rfl)
def at2 (K : AV → Store → Prop) (σ : Store) : Prop := K (.tup []) σ
@[simp] theorem at2_apply (K : AV → Store → Prop) (σ : Store) : at2 K σ = K (.tup []) σ := (rfl)

/-- What follows an operation. -/
def kont (E : Env) (ow : List Nat) (N : Nat) (ops : Array Oper) (l : List Oper) (K : (Nat → AV) → Store → Prop) (d : Option Tmp) (f : Nat → AV) (a : AV) (σ : Store) : Prop := aput N f d a fun f' => aops E ow N ops l f' σ K
@[simp] theorem kont_some (l : List Oper) (K : (Nat → AV) → Store → Prop) (d : Tmp) (f : Nat → AV) (a : AV) (σ : Store) : kont E ow N ops l K (some d) f a σ = (d < N ∧ aops E ow N ops l (upd f d a) σ K) := (rfl)
@[simp] theorem kont_none (l : List Oper) (K : (Nat → AV) → Store → Prop) (f : Nat → AV) (a : AV) (σ : Store) : kont E ow N ops l K none f a σ = aops E ow N ops l f σ K := (rfl)

/-- A guard that is not known yet. -/
def stuck (b : Option Bool) (E : Env) (ow : List Nat) (N : Nat) (ops : Array Oper) (o : Oper) (l : List Oper) (f : Nat → AV) (σ : Store) (K : (Nat → AV) → Store → Prop) : Prop :=
  match b with
  | some g => (g = true → opK E ow o f σ (kont E ow N ops l K o.dst f)) ∧ (g = false → kont E ow N ops l K o.dst f (.tup []) σ)
  | none => False

@[simp] theorem aops_nil (f : Nat → AV) (σ : Store) (K : (Nat → AV) → Store → Prop) : aops E ow N ops [] f σ K = K f σ := (rfl)
theorem aops_cons (o : Oper) (l : List Oper) (f : Nat → AV) (σ : Store) (K : (Nat → AV) → Store → Prop) :
    aops E ow N ops (o :: l) f σ K = if aGuard ops f o = some true then opK E ow o f σ (kont E ow N ops l K o.dst f) else if aGuard ops f o = some false then kont E ow N ops l K o.dst f (.tup []) σ else stuck (aGuard ops f o) E ow N ops o l f σ K := by
  apply propext
  rw [aops]
  unfold stuck
  cases aGuard ops f o with
  | none => simp
  | some g =>
    cases g
    · simp [kont]
    · simp only [if_true]
      simp only [Bool.true_eq_false, forall_const, false_implies, and_true, true_implies]
      exact Iff.rfl

/-- A call in a region that draws its order: its answer is known. -/
def callQ (E : Env) (k : FuncId) (args : List AV) (σ : Store) (K : AV → Prop) : Prop := ∃ a, ACalls E k args σ (fun r σ' => r = a ∧ σ' = σ) ∧ K a
theorem callQ_of {k : FuncId} {args : List AV} {σ : Store} {K : AV → Prop} {a : AV} (h : ACalls E k args σ fun r σ' => r = a ∧ σ' = σ) (hk : K a) : callQ E k args σ K := ⟨a, h, hk⟩

end

/-! #### The operations -/
section
variable {E : Env} {ow : List Nat}

theorem aLen_eq' (t : TypeId) (x : AV) (σ : Store) (K : AV → Store → Prop) : aLen E t x σ (fun a => K a σ) = aLen E t x σ (at1 K σ) := rfl

@[simp] theorem aCall_eq (own : Nat) (c : Call) (f : Nat → AV) (σ : Store) (K : AV → Store → Prop) : aCall E ow own c f σ K = (match c.callee with
  | .value g => (match aeval E.G f g with
    | .fn (.func k) first cap => if callable E.P k = true then ACalls E k (first ++ c.args.toList.map (fun x => argV ow k (aeval E.G f x)) ++ cap) σ K else AExt E k (first ++ c.args.toList.map (aeval E.G f) ++ cap) σ K
    | .fn (.yield b) [] [] => AYield E b (c.args.toList.map fun x => frz (aeval E.G f x)) σ K
    | _ => False)
  | .invoke r m => (match aeval E.G f r with
    | .ifc t v => (match methodOf E.P t m with
      | some k => callable E.P k = true ∧ ACalls E k (v :: c.args.toList.map (fun x => argV ow k (aeval E.G f x))) σ K
      | none => False)
    | _ => False)
  | .builtin .append => (match c.args.toList, c.argTypes.toList with
    | [s, x], [t, u] => aAppend2 E own t u (aeval E.G f s) (aeval E.G f x).rd σ K
    | _, _ => False)
  | .builtin .cap => (match c.args.toList, c.argTypes.toList with
    | [x], [t] => aCap E t (aeval E.G f x) (at1 K σ)
    | _, _ => False)
  | .builtin .copy => (match c.args.toList, c.argTypes.toList with
    | [s, x], [t, u] => aCopy E t (aeval E.G f s) (aeval E.G f x).rd σ K
    | _, _ => False)
  | .builtin .clear => (match c.args.toList, c.argTypes.toList with
    | [x], [t] => aClear E t (aeval E.G f x) σ (at2 K)
    | _, _ => False)
  | .builtin .len => (match c.args.toList, c.argTypes.toList with
    | [x], [t] => aLen E t (aeval E.G f x).rd σ (at1 K σ)
    | _, _ => False)
  | .builtin .delete => (match c.args.toList, c.argTypes.toList with
    | [m, k], [t, u] => aMapDel E t (aeval E.G f m) (aeval E.G f k) σ K
    | _, _ => False)
  | .builtin .max => (match c.args.toList.map (aeval E.G f) with
    | [.c (.int k a), .c (.int _ b)] => K (.c (.int k (if b > a then b else a))) σ
    | _ => False)
  | .builtin .min => (match c.args.toList.map (aeval E.G f) with
    | [.c (.int k a), .c (.int _ b)] => K (.c (.int k (if b < a then b else a))) σ
    | _ => False)
  | _ => False) := by
  unfold aCall
  rfl

@[simp] theorem opK_eq (o : Oper) (f : Nat → AV) (σ : Store) (K : AV → Store → Prop) : opK E ow o f σ K = (match o.op with
  | .move x => K (aeval E.G f x) σ
  | .assign x => if isNil x && (o.dst.map fun d => ow.contains (d + 3000000)).getD false then (match tk E.P o.type with
      | .slc e => K (.lg σ.next []) (σ.alloc (.log e 0))
      | _ => False)
    else if isNil x && (o.dst.map fun d => ow.contains (d + 4000000)).getD false then (match tk E.P o.type with
      | .slc e => K (.rs σ.next 0 0 0) (σ.alloc (.arr e 0 []))
      | _ => False)
    else K (aeval E.G f x) σ
  | .pick c a b => (match aeval E.G f c with
    | .c (.bool t) => K (if t then aeval E.G f a else aeval E.G f b) σ
    | _ => False)
  | .alloc t => aAlloc E t σ K
  | .box t x => aBox E t (aeval E.G f x) σ K
  | .build t ps => aBuild E t (ps.toList.map fun p => (p.1, aeval E.G f p.2)) (at1 K σ)
  | .buildSlice t n ps => if (o.dst.map fun d => ow.contains (d + 1000000)).getD false then aBuildLit E t n (ps.toList.map fun p => (p.1, aeval E.G f p.2)) (at1 K σ)
    else aBuildSlice E (ownN ow o.dst) t n (ps.toList.map fun p => (p.1, aeval E.G f p.2)) σ K
  | .load t x => aLoad E t (aeval E.G f x) σ (at1 K σ)
  | .store t x y => aStore E t (aeval E.G f x) (aeval E.G f y) σ (at2 K)
  | .nilCheck x => aNil (aeval E.G f x) (at1 K σ)
  | .binOp op t x y _ => if isNil y = true then aNilEq E op t (aeval E.G f x).rd (at1 K σ) else aBin E (isNilI y) op t (aeval E.G f x) (aeval E.G f y) (at1 K σ)
  | .unOp op _ x => aUn op (aeval E.G f x) (at1 K σ)
  | .convert s d x => aConv2 E (ownN ow o.dst) s d (aeval E.G f x) σ K
  | .makeInterface t x => tk E.P t ≠ .other ∧ tk E.P t ≠ .ifc ∧ K (.ifc t (aeval E.G f x)) σ
  | .makeFunc fn first cap => K (.fn fn (first.toList.map (aeval E.G f)) (cap.toList.map (aeval E.G f))) σ
  | .makeSlice t l c => aMakeSlice E t (aeval E.G f l) (aeval E.G f c) σ K
  | .slice t x lo hi mx => (match mx with
    | none => if (tk E.P t).isArr = true then aSliceA E t (aeval E.G f x) (lo.map (aeval E.G f)) (hi.map (aeval E.G f)) σ K else aSlice E t (aeval E.G f x).rd (lo.map (aeval E.G f)) (hi.map (aeval E.G f)) σ (at1 K σ)
    | some m => aSlice3 E t (aeval E.G f x).rd (lo.map (aeval E.G f)) (hi.map (aeval E.G f)) (some (aeval E.G f m)) σ (at1 K σ))
  | .fieldAddr t x i => aFieldAddr E t (aeval E.G f x) i (at1 K σ)
  | .field t x i => aField E t (aeval E.G f x) i (at1 K σ)
  | .indexAddr t x i => aIndexAddr E t (aeval E.G f x).rd (aeval E.G f i) σ (at1 K σ)
  | .index t x i => aIndex E t (aeval E.G f x) (aeval E.G f i) (at1 K σ)
  | .extract x i => (match aeval E.G f x with
    | .tup vs => (match vs[i]? with
      | some a => K a σ
      | none => False)
    | _ => False)
  | .call c => aCall E ow (ownN ow o.dst) c f σ K
  | op => opX E op (op.operands.toList.map (aeval E.G f)) σ K) := by
  unfold opK
  rfl

@[simp] theorem aIndexAddr_eq (t : TypeId) (x i : AV) (σ : Store) (K : AV → Prop) : aIndexAddr E t x i σ K = (match i with
  | .c (.int _ n) => 0 ≤ n ∧ (match tk E.P t, x with
    | .slc e, .ps es => tsz E.P e ≠ 0 ∧ ∃ h : n.toNat < es.length, tsz E.P e = es[n.toNat].cells.length ∧ K (.pp es[n.toNat].cells)
    | .slc e, .rs i g off len => n < len ∧ (match σ.get i with
      | some (.arr T g' _) => g = g' ∧ tsz E.P e ≠ 0 ∧ tsz E.P e = tsz E.P T ∧ K (.rp i g (off + n.toNat) 0)
      | _ => False)
    | .arr m e, .pp cs => n < m ∧ tsz E.P e ≠ 0 ∧ K (.pp (cs.drop (n.toNat * tsz E.P e)))
    | _, _ => False)
  | _ => False) := by
  apply propext
  unfold aIndexAddr
  cases i <;> try exact Iff.rfl
  rename_i v
  cases v <;> try exact Iff.rfl
  refine and_congr_right fun _ => ?_
  generalize tk E.P t = T
  cases T <;> cases x <;> try exact Iff.rfl
  rename_i z _ e es
  refine and_congr_right fun _ => ?_
  constructor
  · rintro ⟨a, h1, h2, h3⟩
    obtain ⟨h4, h5⟩ := List.getElem?_eq_some_iff.1 h1
    subst h5
    exact ⟨h4, h2, h3⟩
  · rintro ⟨h4, h2, h3⟩
    exact ⟨_, List.getElem?_eq_getElem h4, h2, h3⟩

@[simp] theorem aAppend_eq (t u : TypeId) (s x : AV) (σ : Store) (K : AV → Store → Prop) : aAppend E t u s x σ K = ((tk E.P u = .str ∨ ∃ e, tk E.P u = .slc e) ∧ (match tk E.P t with
    | .slc e => tsz E.P e ≠ 0 ∧ (azero E.P e).ok = true ∧ tsz E.P e = (azero E.P e).cells.length ∧ (match aElems σ x with
      | some news => (∀ a ∈ news, a.cells.length = tsz E.P e) ∧ (match s with
        | .nl => news.length * tby E.P e ≤ 140737488355328 ∧ news.length ≤ maxLen ∧ (if news.isEmpty = true then K .nl σ else K (.rs σ.next 0 0 news.length) (σ.alloc (.arr e 0 news)))
        | .rs i g off len => (match σ.get i with
          | some (.arr T g' es) => off = 0 ∧ g = g' ∧ T = e ∧ len = es.length ∧ (es.length + news.length) * tby E.P e ≤ 140737488355328 ∧ es.length + news.length ≤ maxLen ∧
              K (.rs i (g + 1) 0 (len + news.length)) (σ.set i (.arr e (g + 1) (es ++ news)))
          | _ => False)
        | _ => False)
      | none => False)
    | _ => False)) := by
  apply propext
  unfold aAppend
  refine and_congr_right fun _ => ?_
  generalize tk E.P t = T
  cases T <;> try exact Iff.rfl
  refine and_congr_right fun _ => and_congr_right fun _ => and_congr_right fun _ => ?_
  generalize aElems σ x = ns
  cases ns <;> try exact Iff.rfl
  rename_i news
  refine and_congr_right fun _ => ?_
  cases s <;> try exact Iff.rfl
  refine and_congr_right fun _ => and_congr_right fun _ => ?_
  cases news <;> simp
end

@[simp] theorem aBuildLit_eq {E : Env} (t : TypeId) (len : Nat) (parts : List (Nat × AV)) (K : AV → Prop) : aBuildLit E t len parts K = (match tk E.P t with
  | .slc e => tsz E.P e ≠ 0 ∧ len * tsz E.P e ≤ 16777216 ∧ (azero E.P e).ok = true ∧ tsz E.P e = (azero E.P e).cells.length ∧ (∀ p ∈ parts, p.1 < len ∧ p.2.ok = true ∧ p.2.cells.length = tsz E.P e) ∧
      tk E.P e = .int .u8 ∧ parts.foldl (fun es p => es.set p.1 p.2) (List.replicate len (azero E.P e)) = ((parts.foldl (fun es p => es.set p.1 p.2) (List.replicate len (azero E.P e))).map AV.byte).map byteV ∧
      K (.fs ((parts.foldl (fun es p => es.set p.1 p.2) (List.replicate len (azero E.P e))).map AV.byte))
  | _ => False) := by
  apply propext
  unfold aBuildLit
  generalize tk E.P t = T
  cases T <;> try exact Iff.rfl
  refine and_congr_right fun _ => and_congr_right fun _ => and_congr_right fun _ => and_congr_right fun _ => and_congr_right fun _ => and_congr_right fun _ => ?_
  constructor
  · rintro ⟨l, h1, h2⟩
    have : (l.map byteV).map AV.byte = l := map_byte_byteV l
    rw [h1, this]
    exact ⟨rfl, h2⟩
  · rintro ⟨h1, h2⟩
    exact ⟨_, h1, h2⟩
attribute [simp] AV.byte AV.isByte

/-! #### Regions that draw their order -/
section
variable {E : Env} {ow : List Nat} {N : Nat} {ops : Array Oper} {σ : Store}

def byVal (o : Oper) : Bool := match o.op with
  | .call c => (match c.callee with
    | .value _ => true
    | .invoke .. => true
    | _ => false)
  | .next .. => true
  | .panic .. => true
  | .binOp _ _ _ y _ => isNil y
  | _ => false

theorem aLoadC_det {P : Program} {t : TypeId} {cs : List AV} {K : AV → Prop} (h : aLoadC P t cs K) : ∃ a, (∀ K' : AV → Prop, K' a → aLoadC P t cs K') ∧ K a := by
  unfold aLoadC at *
  obtain ⟨h0, h⟩ := h
  by_cases hA : (tk P t).agg = true
  · rw [if_pos hA] at h
    exact ⟨_, fun K' hk => ⟨h0, by rw [if_pos hA]; exact ⟨h.1, h.2.1, hk⟩⟩, h.2.2⟩
  · rw [if_neg hA] at h
    cases cs with
    | nil => exact h.elim
    | cons x cs => exact ⟨x, fun K' hk => ⟨h0, by rw [if_neg hA]; exact hk⟩, h⟩

theorem aAppend_det {t u : TypeId} {s x : AV} {σ : Store} {K : AV → Store → Prop} (h : aAppend E t u s x σ K) : ∃ a σ', aAppend E t u s x σ (fun x y => x = a ∧ y = σ') ∧ K a σ' := by
  unfold aAppend at *
  obtain ⟨h0, h⟩ := h
  split at h
  · obtain ⟨h1, h2, h3, h⟩ := h
    split at h
    · rename_i news hn
      obtain ⟨h4, h⟩ := h
      split at h
      · obtain ⟨h5, h6, h7, h8⟩ := h
        by_cases hne : news = []
        · exact ⟨_, _, ⟨h0, h1, h2, h3, h4, h5, h6, fun _ => ⟨rfl, rfl⟩, fun h => absurd hne h⟩, h7 hne⟩
        · exact ⟨_, _, ⟨h0, h1, h2, h3, h4, h5, h6, fun h => absurd h hne, fun _ => ⟨rfl, rfl⟩⟩, h8 hne⟩
      · split at h
        · obtain ⟨h5, h6, h7, h8, h9, h10, h⟩ := h
          exact ⟨_, _, ⟨h0, h1, h2, h3, h4, h5, h6, h7, h8, h9, h10, rfl, rfl⟩, h⟩
        · exact h.elim
      · exact h.elim
    · exact h.elim
  · exact h.elim

theorem aAppendP_det {t u : TypeId} {i g off len T : Nat} {es : List AV} {x : AV} {σ : Store} {K : AV → Store → Prop} (h : aAppendP E t u i g off len T es x σ K) : ∃ a σ', aAppendP E t u i g off len T es x σ (fun x y => x = a ∧ y = σ') ∧ K a σ' := by
  unfold aAppendP at *
  obtain ⟨h0, h⟩ := h
  split at h
  · obtain ⟨h1, h2, h3, h⟩ := h
    split at h
    · exact ⟨_, _, ⟨h0, h1, h2, h3, h.1, h.2.1, rfl, rfl⟩, h.2.2⟩
    · exact h.elim
  · exact h.elim

theorem aAppendC_det {t u : TypeId} {i g off len cap T : Nat} {es : List AV} {x : AV} {σ : Store} {K : AV → Store → Prop} (h : aAppendC E t u i g off len cap T es x σ K) : ∃ a σ', aAppendC E t u i g off len cap T es x σ (fun x y => x = a ∧ y = σ') ∧ K a σ' := by
  unfold aAppendC at *
  obtain ⟨h0, h⟩ := h
  split at h
  · obtain ⟨h1, h2, h3, h4, h5, h⟩ := h
    split at h
    · obtain ⟨k1, k2, k3, k4, k⟩ := h
      exact ⟨_, _, ⟨h0, h1, h2, h3, h4, h5, k1, k2, k3, k4, rfl, rfl⟩, k⟩
    · exact h.elim
  · exact h.elim

theorem aAppendM_det {t : TypeId} {i g off len cap T : Nat} {es : List AV} {k : Int} {σ : Store} {K : AV → Store → Prop} (h : aAppendM E t i g off len cap T es k σ K) : ∃ a σ', aAppendM E t i g off len cap T es k σ (fun x y => x = a ∧ y = σ') ∧ K a σ' := by
  unfold aAppendM at *
  split at h
  · obtain ⟨h1, h2, h3, h4, h5, k1, k2, k3, k4, k⟩ := h
    exact ⟨_, _, ⟨h1, h2, h3, h4, h5, k1, k2, k3, k4, rfl, rfl⟩, k⟩
  · exact h.elim

theorem aAppendL_det {t u : TypeId} {s x : AV} {σ : Store} {K : AV → Store → Prop} (h : aAppendL E t u s x σ K) : ∃ a σ', aAppendL E t u s x σ (fun x y => x = a ∧ y = σ') ∧ K a σ' := by
  unfold aAppendL at *
  obtain ⟨h0, h⟩ := h
  split at h
  · obtain ⟨h1, h2, h3, h⟩ := h
    split at h
    · rename_i news hn
      obtain ⟨h4, h⟩ := h
      split at h
      · obtain ⟨h5, h6, h7, h8⟩ := h
        by_cases hne : news = []
        · exact ⟨_, _, ⟨h0, h1, h2, h3, h4, h5, h6, fun _ => ⟨rfl, rfl⟩, fun h => absurd hne h⟩, h7 hne⟩
        · exact ⟨_, _, ⟨h0, h1, h2, h3, h4, h5, h6, fun h => absurd h hne, fun _ => ⟨rfl, rfl⟩⟩, h8 hne⟩
      · split at h
        · obtain ⟨h5, h6, h7, h8, h⟩ := h
          exact ⟨_, _, ⟨h0, h1, h2, h3, h4, h5, h6, h7, h8, rfl, rfl⟩, h⟩
        · exact h.elim
      · exact h.elim
    · exact h.elim
  · exact h.elim

theorem aAppendF_det {t u : TypeId} {x : AV} {σ : Store} {K : AV → Store → Prop} (h : aAppendF E t u x σ K) : ∃ a σ', aAppendF E t u x σ (fun x y => x = a ∧ y = σ') ∧ K a σ' := by
  unfold aAppendF at *
  obtain ⟨h0, h⟩ := h
  split at h
  · obtain ⟨h1, h2, h3, h⟩ := h
    split at h
    · obtain ⟨h4, h5, h6, h⟩ := h
      exact ⟨_, _, ⟨h0, h1, h2, h3, h4, h5, h6, rfl, rfl⟩, h⟩
    · exact h.elim
  · exact h.elim
theorem aAppend2_det {own : Nat} {t u : TypeId} {s x : AV} {σ : Store} {K : AV → Store → Prop} (h : aAppend2 E own t u s x σ K) : ∃ a σ', aAppend2 E own t u s x σ (fun x y => x = a ∧ y = σ') ∧ K a σ' := by
  unfold aAppend2 at *
  split at h
  · split at h
    · obtain ⟨hg, h⟩ := h
      split at h
      · rename_i hc
        obtain ⟨a, σ', h1, h2⟩ := aAppend_det h
        exact ⟨a, σ', ⟨hg, by rw [if_pos hc]; exact h1⟩, h2⟩
      · rename_i hc
        split at h
        · obtain ⟨a, σ', h1, h2⟩ := aAppendM_det h
          exact ⟨a, σ', ⟨hg, by rw [if_neg hc]; exact h1⟩, h2⟩
        · obtain ⟨a, σ', h1, h2⟩ := aAppendC_det h
          exact ⟨a, σ', ⟨hg, by rw [if_neg hc]; exact h1⟩, h2⟩
    · exact h.elim
  · split at h
    · split at h
      · rename_i hc
        obtain ⟨a, σ', h1, h2⟩ := aAppend_det h
        exact ⟨a, σ', by rw [if_pos hc]; exact h1, h2⟩
      · rename_i hc
        obtain ⟨a, σ', h1, h2⟩ := aAppendP_det h.2
        exact ⟨a, σ', by rw [if_neg hc]; exact ⟨h.1, h1⟩, h2⟩
    · exact h.elim
  · split at h
    · rename_i hc
      obtain ⟨a, σ', h1, h2⟩ := aAppend_det h
      exact ⟨a, σ', by simp only [if_pos hc]; exact h1, h2⟩
    · rename_i hc
      split at h
      · rename_i hc2
        obtain ⟨a, σ', h1, h2⟩ := aAppendF_det h
        exact ⟨a, σ', by simp only [if_neg hc, if_pos hc2]; exact h1, h2⟩
      · rename_i hc2
        obtain ⟨a, σ', h1, h2⟩ := aAppendL_det h
        exact ⟨a, σ', by simp only [if_neg hc, if_neg hc2]; exact h1, h2⟩
  · exact aAppendL_det h
  · exact h.elim

theorem aConv_det {own : Nat} {s d : TypeId} {x : AV} {σ : Store} {K : AV → Store → Prop} (h : aConv E own s d x σ K) : ∃ a σ', aConv E own s d x σ (fun x y => x = a ∧ y = σ') ∧ K a σ' := by
  unfold aConv at *
  obtain ⟨h0, h⟩ := h
  split at h
  · split at h
    · exact ⟨_, _, ⟨h0, rfl, rfl⟩, h⟩
    · exact h.elim
  · split at h
    · exact ⟨_, _, ⟨h0, rfl, rfl⟩, h⟩
    · exact ⟨_, _, ⟨h0, rfl, rfl⟩, h⟩
    · split at h
      · obtain ⟨h1, h⟩ := h
        split at h
        · exact ⟨_, _, ⟨h0, h1, h.1, rfl, rfl⟩, h.2⟩
        · exact h.elim
      · exact h.elim
  · split at h
    · obtain ⟨h1, h2, h3, h⟩ := h
      by_cases ho : own = 1
      · simp only [if_pos ho] at h ⊢
        exact ⟨_, _, ⟨h0, h1, h2, h3, rfl, rfl⟩, h⟩
      · simp only [if_neg ho] at h ⊢
        by_cases ho2 : own = 2
        · simp only [if_pos ho2] at h ⊢
          exact ⟨_, _, ⟨h0, h1, h2, h3, rfl, rfl⟩, h⟩
        · simp only [if_neg ho2] at h ⊢
          exact ⟨_, _, ⟨h0, h1, h2, h3, rfl, rfl⟩, h⟩
    · obtain ⟨h1, h2, h⟩ := h
      exact ⟨_, _, ⟨h0, h1, h2, rfl, rfl⟩, h⟩
    · exact h.elim
  · exact h.elim
/-- Every operation but a call has one answer. -/
theorem opK_det {o : Oper} {f : Nat → AV} {K : AV → Store → Prop} (hb : byVal o = false) (h : opK E ow o f σ K) : ∃ a σ', opK E ow o f σ (fun x y => x = a ∧ y = σ') ∧ K a σ' := by
  obtain ⟨dst, op, ty, pos, after, guard⟩ := o
  cases op <;> simp only [opK] at h ⊢ <;> try exact opX_det (by intro it s; try (rintro ⟨⟩); try (simp [byVal] at hb)) (by intro x; try (rintro ⟨⟩); try (simp [byVal] at hb)) h
  case move x => exact ⟨_, _, ⟨rfl, rfl⟩, h⟩
  case assign x =>
    split at h
    · rename_i hc
      split at h
      · rename_i e ht
        exact ⟨_, _, by rw [if_pos hc]; exact ⟨rfl, rfl⟩, h⟩
      · exact h.elim
    · rename_i hc
      split at h
      · rename_i hc2
        split at h
        · rename_i e ht
          exact ⟨_, _, by rw [if_neg hc, if_pos hc2]; exact ⟨rfl, rfl⟩, h⟩
        · exact h.elim
      · rename_i hc2
        exact ⟨_, _, by rw [if_neg hc, if_neg hc2]; exact ⟨rfl, rfl⟩, h⟩
  case pick c a b =>
    split at h
    · exact ⟨_, _, ⟨rfl, rfl⟩, h⟩
    · exact h.elim
  case alloc t =>
    unfold aAlloc aBox at *
    exact ⟨_, _, ⟨h.1, h.2.1, rfl, rfl⟩, h.2.2⟩
  case box t x =>
    unfold aBox at *
    exact ⟨_, _, ⟨h.1, h.2.1, rfl, rfl⟩, h.2.2⟩
  case build t ps =>
    unfold aBuild at *
    split at h
    · split at h
      · exact ⟨_, _, ⟨rfl, rfl⟩, h⟩
      · exact h.elim
    · exact h.elim
  case buildSlice t n ps =>
    cases hlit : (dst.map fun d => ow.contains (d + 1000000)).getD false
    · simp only [hlit, Bool.false_eq_true, if_false] at h ⊢
      unfold aBuildSlice at *
      split at h
      · obtain ⟨h1, h2, h3, h4, h5, h⟩ := h
        by_cases ho : ownN ow dst = 1
        · simp only [if_pos ho] at h ⊢
          exact ⟨_, _, ⟨h1, h2, h3, h4, h5, rfl, rfl⟩, h⟩
        · simp only [if_neg ho] at h ⊢
          by_cases ho2 : ownN ow dst = 2
          · simp only [if_pos ho2] at h ⊢
            exact ⟨_, _, ⟨h1, h2, h3, h4, h5, rfl, rfl⟩, h⟩
          · simp only [if_neg ho2] at h ⊢
            by_cases h0 : n = 0
            · rw [if_pos h0] at h
              simp only [if_pos h0]
              exact ⟨_, _, ⟨h1, h2, h3, h4, h5, rfl, rfl⟩, h⟩
            · rw [if_neg h0] at h
              simp only [if_neg h0]
              exact ⟨_, _, ⟨h1, h2, h3, h4, h5, rfl, rfl⟩, h⟩
      · exact h.elim
    · simp only [hlit, if_true] at h ⊢
      unfold aBuildLit at *
      split at h
      · obtain ⟨h1, h2, h3, h4, h5, h6, l, h7, h⟩ := h
        exact ⟨_, _, ⟨h1, h2, h3, h4, h5, h6, l, h7, rfl, rfl⟩, h⟩
      · exact h.elim
  case load t x =>
    unfold aLoad at *
    split at h
    · obtain ⟨a, h1, h2⟩ := aLoadC_det h
      exact ⟨a, σ, h1 _ ⟨rfl, rfl⟩, h2⟩
    · split at h
      · obtain ⟨hg, h⟩ := h
        split at h
        · obtain ⟨a, h1, h2⟩ := aLoadC_det h
          exact ⟨a, σ, ⟨hg, h1 _ ⟨rfl, rfl⟩⟩, h2⟩
        · exact h.elim
      · exact h.elim
    · exact h.elim
  case store t x y =>
    unfold aStore at *
    split at h
    · split at h
      · obtain ⟨h1, h2, h3, h4, h⟩ := h
        split at h
        · exact ⟨_, _, ⟨h1, h2, h3, h4, rfl, rfl⟩, h⟩
        · exact h.elim
      · exact h.elim
    · exact h.elim
  case nilCheck x =>
    unfold aNil at *
    split at h <;> first | exact h.elim | exact ⟨_, _, ⟨rfl, rfl⟩, h⟩
  case binOp op t x y yt =>
    have hnil : isNil y = false := by simpa [byVal] using hb
    simp only [hnil, Bool.false_eq_true, if_false] at h ⊢
    exact aBin_det h
  case unOp op t x =>
    unfold aUn at *
    split at h <;> first | exact h.elim | exact ⟨_, _, ⟨rfl, rfl⟩, h⟩
  case convert s d x =>
    unfold aConv2 at *
    split at h
    · split at h
      · rename_i ho
        obtain ⟨h0, h⟩ := h
        split at h
        · obtain ⟨h1, h2, h3, h4, h⟩ := h
          exact ⟨_, _, by rw [if_pos ho]; exact ⟨h0, h1, h2, h3, h4, rfl, rfl⟩, h⟩
        · exact h.elim
      · rename_i ho
        obtain ⟨a, σ', h1, h2⟩ := aConv_det h
        exact ⟨a, σ', by simp only [if_neg ho]; exact h1, h2⟩
    · exact aConv_det h
  case makeInterface t x => exact ⟨_, _, ⟨h.1, h.2.1, rfl, rfl⟩, h.2.2⟩
  case makeFunc fn first cap => exact ⟨_, _, ⟨rfl, rfl⟩, h⟩
  case makeSlice t l c =>
    unfold aMakeSlice at *
    split at h
    · obtain ⟨h1, h2, h3, h4, h5, h6, h7, h⟩ := h
      exact ⟨_, _, ⟨h1, h2, h3, h4, h5, h6, h7, rfl, rfl⟩, h⟩
    · exact h.elim
  case slice t x lo hi mx =>
    split at h
    · rename_i hmx
      by_cases hA : (tk E.P t).isArr = true
      · simp only [if_pos hA] at h ⊢
        exact aSliceA_det h
      simp only [if_neg hA] at h ⊢
      unfold aSlice at *
      split at h
      · exact h.elim
      · split at h
        · split at h
          · obtain ⟨h1, h2, h3, h⟩ := h
            exact ⟨_, _, ⟨h1, h2, h3, rfl, rfl⟩, h⟩
          · exact h.elim
        · split at h
          · obtain ⟨h1, h2, h3, h4, h5, h⟩ := h
            exact ⟨_, _, ⟨h1, h2, h3, h4, h5, rfl, rfl⟩, h⟩
          · exact h.elim
        · split at h
          · split at h
            · obtain ⟨h1, h2, h3, h4, h5, h6, h⟩ := h
              exact ⟨_, _, ⟨h1, h2, h3, h4, h5, h6, rfl, rfl⟩, h⟩
            · exact h.elim
          · exact h.elim
        · split at h
          · split at h
            · obtain ⟨h1, h2, h3, h4, h5, h6, h⟩ := h
              exact ⟨_, _, ⟨h1, h2, h3, h4, h5, h6, rfl, rfl⟩, h⟩
            · exact h.elim
          · exact h.elim
        · split at h
          · obtain ⟨h1, h2, h3, h⟩ := h
            exact ⟨_, _, ⟨h1, h2, h3, rfl, rfl⟩, h⟩
          · exact h.elim
        · exact h.elim
    · unfold aSlice3 at *
      split at h
      · obtain ⟨h1, h2, h3, h4, h5, h⟩ := h
        exact ⟨_, _, ⟨h1, h2, h3, h4, h5, rfl, rfl⟩, h⟩
      · exact h.elim
  case fieldAddr t x i =>
    unfold aFieldAddr at *
    split at h
    · split at h <;> first | exact h.elim | exact ⟨_, _, ⟨rfl, rfl⟩, h⟩
    · exact h.elim
  case field t x i =>
    unfold aField at *
    split at h
    · obtain ⟨a, h1, h2⟩ := aLoadC_det h
      exact ⟨a, σ, h1 _ ⟨rfl, rfl⟩, h2⟩
    · exact h.elim
  case indexAddr t x i =>
    unfold aIndexAddr at *
    split at h
    · obtain ⟨h0, h⟩ := h
      split at h
      · obtain ⟨h1, a, h2, h3, h⟩ := h
        exact ⟨_, _, ⟨h0, h1, a, h2, h3, rfl, rfl⟩, h⟩
      · obtain ⟨h1, h⟩ := h
        split at h
        · obtain ⟨h2, h3, h4, h⟩ := h
          exact ⟨_, _, ⟨h0, h1, h2, h3, h4, rfl, rfl⟩, h⟩
        · exact h.elim
      · obtain ⟨h1, h2, h⟩ := h
        exact ⟨_, _, ⟨h0, h1, h2, rfl, rfl⟩, h⟩
      · exact h.elim
    · exact h.elim
  case index t x i =>
    unfold aIndex at *
    split at h
    · obtain ⟨h0, h⟩ := h
      split at h
      · exact ⟨_, _, ⟨h0, h.1, rfl, rfl⟩, h.2⟩
      · obtain ⟨h1, h2, h5⟩ := h
        obtain ⟨a, h3, h4⟩ := aLoadC_det h2
        exact ⟨a, σ, ⟨h0, h1, h3 _ ⟨rfl, rfl⟩, h5⟩, h4⟩
      · exact h.elim
    · exact h.elim
  case extract x i =>
    split at h
    · split at h
      · exact ⟨_, _, ⟨rfl, rfl⟩, h⟩
      · exact h.elim
    · exact h.elim
  case call c =>
    obtain ⟨callee, args, argTypes⟩ := c
    unfold aCall at *
    simp only [byVal] at hb
    cases callee with
    | value g => simp at hb
    | invoke r m => simp at hb
    | builtin b =>
      cases b <;> simp only at h ⊢ <;> try exact h.elim
      case append =>
        split at h
        · exact aAppend2_det h
        · exact h.elim
      case cap =>
        split at h
        · unfold aCap at *
          split at h <;> first | exact h.elim | exact ⟨_, _, ⟨rfl, rfl⟩, h⟩
        · exact h.elim
      case delete =>
        split at h
        · exact aMapDel_det h
        · exact h.elim
      case clear =>
        split at h
        · unfold aClear at *
          split at h
          · obtain ⟨h1, h2, h3, h⟩ := h
            split at h
            · obtain ⟨h4, h5, h6, h⟩ := h
              exact ⟨_, _, ⟨h1, h2, h3, h4, h5, h6, rfl, rfl⟩, h⟩
            · exact h.elim
          · exact h.elim
        · exact h.elim
      case copy =>
        split at h
        · unfold aCopy at *
          split at h
          · obtain ⟨h1, h⟩ := h
            split at h
            · obtain ⟨h4, h5, h6, h7, h⟩ := h
              exact ⟨_, _, ⟨h1, h4, h5, h6, h7, rfl, rfl⟩, h⟩
            · exact h.elim
          · exact h.elim
        · exact h.elim
      case len =>
        split at h
        · unfold aLen at *
          split at h <;> first | exact h.elim | exact ⟨_, _, ⟨rfl, rfl⟩, h⟩ | skip
          split at h
          · exact ⟨_, _, ⟨rfl, rfl⟩, h⟩
          · exact h.elim
        · exact h.elim
      case max =>
        split at h
        · exact ⟨_, _, ⟨rfl, rfl⟩, h⟩
        · exact h.elim
      case min =>
        split at h
        · exact ⟨_, _, ⟨rfl, rfl⟩, h⟩
        · exact h.elim

def opR (E : Env) (ow : List Nat) (o : Oper) (f : Nat → AV) (σ : Store) (K : AV → Prop) : Prop :=
  if byVal o = true then ∃ a, opK E ow o f σ (fun a' σ' => a' = a ∧ σ' = σ) ∧ K a else opK E ow o f σ fun a σ' => σ' = σ ∧ K a

theorem opR_ok {o : Oper} {f : Nat → AV} {K : AV → Prop} (h : opR E ow o f σ K) : ∃ a, opK E ow o f σ (fun a' σ' => a' = a ∧ σ' = σ) ∧ K a := by
  unfold opR at h
  split at h
  · exact h
  · rename_i hb
    obtain ⟨a, σ', h1, rfl, h2⟩ := opK_det (by simpa using hb) h
    exact ⟨a, h1, h2⟩

/-- The walk through such a region, in the order of the text. -/
def aopsR (E : Env) (ow : List Nat) (N : Nat) (ops : Array Oper) (σ : Store) (Q : (Nat → AV) → Prop) : List Oper → (Nat → AV) → Prop
  | [], f => Q f
  | o :: l, f => match aGuard ops f o with
    | some g => (g = true → opR E ow o f σ fun a => aput N f o.dst a fun f' => aopsR E ow N ops σ Q l f') ∧ (g = false → aput N f o.dst (.tup []) fun f' => aopsR E ow N ops σ Q l f')
    | none => False

theorem aopsR_ok {Q : (Nat → AV) → Prop} : ∀ (l : List Oper) (f : Nat → AV), aopsR E ow N ops σ Q l f → aopsQ E ow N ops σ Q l f
  | [], f, h => h
  | o :: l, f, h => by
    unfold aopsR at h
    unfold aopsQ
    cases hg : aGuard ops f o with
    | none => rw [hg] at h; exact h.elim
    | some g =>
      rw [hg] at h
      refine ⟨fun hg => ?_, fun hg => aput_mono (fun f' hf => aopsR_ok l f' hf) (h.2 hg)⟩
      obtain ⟨a, h1, h2⟩ := opR_ok (h.1 hg)
      exact ⟨a, h1, aput_mono (fun f' hf => aopsR_ok l f' hf) h2⟩

def kontR (E : Env) (ow : List Nat) (N : Nat) (ops : Array Oper) (σ : Store) (Q : (Nat → AV) → Prop) (l : List Oper) (d : Option Tmp) (f : Nat → AV) (a : AV) : Prop := aput N f d a fun f' => aopsR E ow N ops σ Q l f'
@[simp] theorem kontR_some (Q : (Nat → AV) → Prop) (l : List Oper) (d : Tmp) (f : Nat → AV) (a : AV) : kontR E ow N ops σ Q l (some d) f a = (d < N ∧ aopsR E ow N ops σ Q l (upd f d a)) := (rfl)
@[simp] theorem kontR_none (Q : (Nat → AV) → Prop) (l : List Oper) (f : Nat → AV) (a : AV) : kontR E ow N ops σ Q l none f a = aopsR E ow N ops σ Q l f := (rfl)
def kontS (σ : Store) (K : AV → Prop) (a : AV) (σ' : Store) : Prop := σ' = σ ∧ K a
@[simp] theorem kontS_apply (K : AV → Prop) (a : AV) (σ' : Store) : kontS σ K a σ' = (σ' = σ ∧ K a) := (rfl)

def stuckR (b : Option Bool) (E : Env) (ow : List Nat) (N : Nat) (ops : Array Oper) (σ : Store) (Q : (Nat → AV) → Prop) (o : Oper) (l : List Oper) (f : Nat → AV) : Prop :=
  match b with
  | some g => (g = true → opR E ow o f σ (kontR E ow N ops σ Q l o.dst f)) ∧ (g = false → kontR E ow N ops σ Q l o.dst f (.tup []))
  | none => False

@[simp] theorem aopsR_nil (Q : (Nat → AV) → Prop) (f : Nat → AV) : aopsR E ow N ops σ Q [] f = Q f := (rfl)
@[simp] theorem aopsR_cons (Q : (Nat → AV) → Prop) (o : Oper) (l : List Oper) (f : Nat → AV) :
    aopsR E ow N ops σ Q (o :: l) f = if aGuard ops f o = some true then opR E ow o f σ (kontR E ow N ops σ Q l o.dst f) else if aGuard ops f o = some false then kontR E ow N ops σ Q l o.dst f (.tup []) else stuckR (aGuard ops f o) E ow N ops σ Q o l f := by
  apply propext
  rw [aopsR]
  unfold stuckR
  cases aGuard ops f o with
  | none => simp
  | some g =>
    cases g
    · simp [kontR]
    · simp only [if_true]
      simp only [Bool.true_eq_false, forall_const, false_implies, and_true, true_implies]
      exact Iff.rfl

def opRc (E : Env) (ow : List Nat) (o : Oper) (f : Nat → AV) (σ : Store) (K : AV → Prop) : Prop := ∃ a, opK E ow o f σ (fun a' σ' => a' = a ∧ σ' = σ) ∧ K a
@[simp] theorem opR_eq (o : Oper) (f : Nat → AV) (K : AV → Prop) : opR E ow o f σ K = (match o.op with
  | .call c => (match c.callee with
    | .value _ => opRc E ow o f σ K
    | .invoke .. => opRc E ow o f σ K
    | _ => opK E ow o f σ (kontS σ K))
  | .next .. => opRc E ow o f σ K
  | .panic .. => opRc E ow o f σ K
  | .binOp op t x y _ => if isNil y = true then ∃ a, (aNilEq E op t (aeval E.G f x).rd fun a' => a' = a) ∧ K a else opK E ow o f σ (kontS σ K)
  | _ => opK E ow o f σ (kontS σ K)) := by
  apply propext
  obtain ⟨dst, op, ty, pos, after, guard⟩ := o
  unfold opR
  cases op <;> try first | (simp only [byVal, Bool.false_eq_true, if_false]; rfl) | (simp only [byVal, if_true]; rfl)
  case binOp op t x y yt =>
    by_cases hn : isNil y = true
    · refine Iff.trans (iff_of_eq (if_pos (show byVal ⟨dst, .binOp op t x y yt, ty, pos, after, guard⟩ = true from hn))) (Iff.trans ?_ (iff_of_eq (if_pos hn)).symm)
      simp only [opK, if_pos hn, and_true]
    · refine Iff.trans (iff_of_eq (if_neg (show ¬ byVal ⟨dst, .binOp op t x y yt, ty, pos, after, guard⟩ = true from hn))) (Iff.trans ?_ (iff_of_eq (if_neg hn)).symm)
      exact Iff.rfl
  rename_i c
  obtain ⟨callee, args, argTypes⟩ := c
  cases callee <;> first | (simp only [byVal, Bool.false_eq_true, if_false]; rfl) | (simp only [byVal, if_true]; rfl)
end

section
variable {E : Env} {n N : Nat} {f : Nat → AV} {σ : Store} {Q : AExit → (Nat → AV) → Store → Prop}
theorem AW.drawR (ow : List Nat) {id : Nat} {l : List Oper} (hm : E.P.follows .mixedOrders = true) (hB : Region.lexFrom .any l.toArray l.length 0 (Array.replicate l.length false) = true) (h : aopsR E ow N l.toArray σ (fun f => Q .normal f σ) l f) :
    AW E n N (.region id l.toArray true) f σ Q := AW.draw ow hm hB (aopsR_ok l f h)

theorem AW.stepR (ow l : List Nat) {id : Nat} {ops : List Oper} {d : Code} (hm : E.P.follows .mixedOrders = true) (hB : Region.lexFrom .any ops.toArray ops.length 0 (Array.replicate ops.length false) = true)
    (h : ∀ K : List (Nat × AV) → Store → Prop, (∀ L σ, AW E n N d (fr L) σ Q → K L σ) → aopsR E ow N ops.toArray σ (fun f => K (pick l f) σ) ops f) :
    AW E n N (.seq (.region id ops.toArray true) d) f σ Q :=
  AW.seqL l fun K hK => AW.drawR ow hm hB (h K hK)
end
end Go.AW
end

section
set_option linter.unusedVariables false
set_option linter.unusedSimpArgs false
set_option linter.unnecessarySimpa false
namespace Go.AW
open Go

theorem opK_looks {E : Env} {ow : List Nat} {ops : Array Oper} {σ : Store} {o : Oper} {f g : Nat → AV} {K : AV → Store → Prop} (h : ∀ t ∈ o.looksAt ops, f t = g t) : opK E ow o f σ K = opK E ow o g σ K :=
  opK_congr fun x hx => by
    cases x with
    | tmp t => exact h t (List.mem_append_left _ (List.mem_filterMap.2 ⟨.tmp t, by simpa using hx, rfl⟩))
    | _ => rfl

theorem aGuard_looks {ops : Array Oper} {o : Oper} {f g : Nat → AV} (h : ∀ t ∈ o.looksAt ops, f t = g t) : aGuard ops f o = aGuard ops g o := by
  unfold aGuard
  cases hg : o.guard with
  | none => rfl
  | some gw =>
    obtain ⟨j, want⟩ := gw
    simp only
    cases hd : (ops[j]?).bind (·.dst) with
    | none => rfl
    | some t =>
      have : f t = g t := h t (by unfold Oper.looksAt; rw [hg]; simp [hd])
      simp only [this]

/-- What an operation of such a region is: it leaves the store alone and may come up at these points (0: before all others, q + 1: behind operation q, which changes the store); or it changes the store. -/
inductive An where
  | q (ps : List Nat)
  | e

def An.isE : An → Bool
  | .e => true
  | _ => false

def pos (an : List An) (p : Nat) : Bool := p == 0 || (match an[p - 1]? with | some .e => true | _ => false)

def lastPos (an : List An) : Nat → Nat
  | 0 => 0
  | j + 1 => match an[j]? with
    | some .e => j + 1
    | _ => lastPos an j

def onlyOn (o : Oper) : List Nat := (o.after.toList.filter fun e => Region.binds .any e).map (·.on)

def addNew (a : List Nat) (x : Nat) : List Nat := if a.contains x then a else x :: a

def preOf : List Oper → List (List Nat) → List (List Nat)
  | [], acc => acc
  | o :: l, acc => preOf l (acc ++ [((onlyOn o).flatMap fun j => j :: acc.getD j []).foldl addNew []])

def planOk (l : List Oper) (an : List An) : Bool :=
  let pre := preOf l []
  let n := l.length
  an.length == n && pre.length == n && (List.range n).all fun i =>
    match l[i]?, an[i]?, pre[i]? with
    | some o, some a, some ps =>
      (onlyOn o).all (fun j => decide (j < i)) &&
      ps.all (fun j => (onlyOn o).any fun k => k == j || (pre.getD k []).contains j) &&
      (List.range n).all (fun k => k == i || (match (l[k]?).bind (·.dst) with
        | some d => (!((o.looksAt l.toArray).contains d) || (ps.contains k && decide (k < i)) || ((pre.getD k []).contains i && decide (i < k))) && !(o.dst == some d)
        | none => true)) &&
      (match a with
      | .e => (List.range n).all fun k => !(decide (k < i) && (an[k]?.map An.isE).getD false) || ps.contains k
      | .q w => (List.range (n + 1)).all fun p => !(pos an p) || w.contains p ||
          (List.range n).any (fun k => (an[k]?.map An.isE).getD false && ((ps.contains k && decide (p ≤ k)) || ((pre.getD k []).contains i && decide (k < p)))))
    | _, _, _ => false

section
variable {E : Env} {ow : List Nat} {N : Nat} {ops : Array Oper} {md : Region.Mode}

/-- Operation i comes up. -/
def qE (E : Env) (ow : List Nat) (N : Nat) (ops : Array Oper) (i : Nat) (K : (Nat → AV) → Store → Prop) (f : Nat → AV) (σ : Store) : Prop :=
  match ops[i]? with
  | none => K f σ
  | some o => match aGuard ops f o with
    | some g => (g = true → ∃ a σ1, opK E ow o f σ (fun a' σ' => a' = a ∧ σ' = σ1) ∧ aput N f o.dst a fun f' => K f' σ1) ∧ (g = false → aput N f o.dst (.tup []) fun f' => K f' σ)
    | none => False

def anyE (E : Env) (ow : List Nat) (N : Nat) (md : Region.Mode) (ops : Array Oper) (Q : (Nat → AV) → Store → Prop) : Nat → Array Bool → (Nat → AV) → Store → Prop
  | 0, listed, f, σ => Region.ready md ops listed = [] ∧ Q f σ
  | fuel + 1, listed, f, σ => (Region.ready md ops listed = [] → Q f σ) ∧ ∀ i ∈ Region.ready md ops listed, qE E ow N ops i (anyE E ow N md ops Q fuel (listed.setIfInBounds i true)) f σ

theorem anyE_ok {n : Nat} {Γ0 : Ctx} {w0 : World} {rd : Option Nat} {ds0 : Ds0} {Q : (Nat → AV) → Store → Prop} {Q' : Exit → Act → World → Prop}
    (hQ : ∀ Γ w f σ a, ExtN n Γ0 w0 Γ w → R E Γ σ w → TR N Γ w f a.tmps → Marks w ds0 a → Q f σ → Q' .normal a w)
    (hP : ∀ v w a, PanRes E n Γ0 w0 v w → Marks w ds0 a → Q' (.panic [{ v := v, recovered := false }]) a w) (hw : ∀ (i : Nat) (o : Oper), ops[i]? = some o → kpOk ds0 o.dst) :
    ∀ (fuel : Nat) (listed : Array Bool) (f : Nat → AV) (σ : Store) (Γ : Ctx) (w : World) (a : Act), ExtN n Γ0 w0 Γ w → R E Γ σ w → TR N Γ w f a.tmps → Marks w ds0 a → anyE E ow N md ops Q fuel listed f σ → wpAnyIn (wideR rd) 0 E.P md ops Q' fuel listed a w
  | 0, listed, f, σ, Γ, w, a, hx, hr, ht, hd, h => ⟨h.1, hQ Γ w f σ a hx hr ht hd h.2⟩
  | fuel + 1, listed, f, σ, Γ, w, a, hx, hr, ht, hd, h => by
    refine ⟨fun h0 => hQ Γ w f σ a hx hr ht hd (h.1 h0), fun i hi => ?_⟩
    have h1 := h.2 i hi
    unfold wpOpIn
    unfold qE at h1
    split
    · rename_i ho
      simp only [ho] at h1
      exact anyE_ok hQ hP hw fuel _ f σ Γ w a hx hr ht hd h1
    · rename_i o ho
      simp only [ho] at h1
      split at h1
      · rename_i g hg
        cases g with
        | true =>
          obtain ⟨x, σ1, hx1, hx2⟩ := h1.1 rfl
          rw [if_pos (aGuard_ok ht hg)]
          refine Up.upon (opK_ok (ρ := a.eval) hr (fun x _ => ht.eval hr x) (fun _ => rfl) hx1) (opK_defer hx1) ?_ ?_
          · rintro v w' ⟨Γ', y, σ', k1, k2, k3, e1, e2⟩
            subst e1; subst e2
            obtain ⟨f', ht', hk, hd'⟩ := aput_ok (ht.ext k1) k3 hx2
            exact anyE_ok hQ hP hw fuel _ f' σ' Γ' w' _ (hx.trans (k1.mono hx.le')) k2 ht' ((hd.ext hr k1).put (hw _ _ ho)) hk
          · intro v w' h
            obtain ⟨Γ', h1⟩ := h.ext
            exact hP v w' a (.of_res hx h) (hd.ext hr h1)
        | false =>
          rw [if_neg (by rw [aGuard_ok ht hg]; simp)]
          obtain ⟨f', ht', hk, hd'⟩ := aput_ok ht (VR.undef_ Γ w) (h1.2 rfl)
          exact ⟨fun _ _ => trivial, anyE_ok hQ hP hw fuel _ f' σ Γ w _ hx hr ht' (hd.put (hw _ _ ho)) hk⟩
      · exact h1.elim

/-! ### The walk in the order of the text -/
def oblA (E : Env) (ow : List Nat) (o : Oper) (f : Nat → AV) (a : AV) (ps : List Nat) : List (Nat × Store) → Prop
  | [] => True
  | x :: l => (x.1 ∈ ps → opK E ow o f x.2 fun a' σ' => a' = a ∧ σ' = x.2) ∧ oblA E ow o f a ps l

structure Pend where
  ps : List Nat
  o : Oper
  f : Nat → AV
  a : AV

def oblB (E : Env) (ow : List Nat) (p : Nat) (σ : Store) : List Pend → Prop
  | [] => True
  | x :: l => (p ∈ x.ps → opK E ow x.o x.f σ fun a' σ' => a' = x.a ∧ σ' = σ) ∧ oblB E ow p σ l

def opD (E : Env) (ow : List Nat) (o : Oper) (f : Nat → AV) (σ : Store) (K : AV → Store → Prop) : Prop :=
  if byVal o = true then ∃ a σ1, opK E ow o f σ (fun a' σ' => a' = a ∧ σ' = σ1) ∧ K a σ1 else opK E ow o f σ K

theorem opD_ok {o : Oper} {f : Nat → AV} {σ : Store} {K : AV → Store → Prop} (h : opD E ow o f σ K) : ∃ a σ1, opK E ow o f σ (fun a' σ' => a' = a ∧ σ' = σ1) ∧ K a σ1 := by
  unfold opD at h
  split at h
  · exact h
  · rename_i hb
    exact opK_det (by simpa using hb) h

/-- An operation that does not look at the store. -/
def pureOp (ow : List Nat) (o : Oper) : Bool :=
  match o.op with
  | .assign x => !(isNil x && (o.dst.map fun d => ow.contains (d + 3000000)).getD false) && !(isNil x && (o.dst.map fun d => ow.contains (d + 4000000)).getD false)
  | .move _ | .pick .. | .build .. | .nilCheck _ | .binOp .. | .unOp .. | .makeInterface .. | .makeFunc .. | .fieldAddr .. | .field .. | .index .. | .extract .. => true
  | .buildSlice .. => (ownN ow o.dst == 0)
  | _ => false

theorem pureOp_ok {o : Oper} {f : Nat → AV} {a : AV} {σ σ2 : Store} (hp : pureOp ow o = true) (h : opK E ow o f σ fun a' σ' => a' = a ∧ σ' = σ) : opK E ow o f σ2 fun a' σ' => a' = a ∧ σ' = σ2 := by
  obtain ⟨dst, op, ty, ps, after, guard⟩ := o
  have e1 : (fun a' => a' = a ∧ σ = σ) = (fun a' => a' = a ∧ σ2 = σ2) := by simp
  cases op <;> simp only [pureOp, Bool.false_eq_true] at hp <;> simp only [opK] at h ⊢
  case buildSlice t n parts =>
    have hp' : ownN ow dst = 0 := by simpa using hp
    rw [hp'] at h ⊢
    split
    · rename_i hl; rw [if_pos hl] at h; exact h
    · rename_i hl; rw [if_neg hl] at h
      unfold aBuildSlice at h ⊢
      split at h
      · simpa using h
      · exact h.elim
  case assign x =>
    have hp' : ¬ (isNil x && (dst.map fun d => ow.contains (d + 3000000)).getD false) = true := by intro hh; rw [hh] at hp; simp at hp
    have hp2 : ¬ (isNil x && (dst.map fun d => ow.contains (d + 4000000)).getD false) = true := by intro hh; rw [hh] at hp; simp at hp
    rw [if_neg hp', if_neg hp2] at h ⊢
    exact ⟨h.1, by trivial⟩
  all_goals first
    | (rw [e1] at h; exact h)
    | (split at h <;> first | exact h.elim | (simpa using h))
    | (simpa using h)
    | (split at h
       · split at h <;> first | exact h.elim | (simp_all)
       · exact h.elim)

def aopsE (E : Env) (ow : List Nat) (N : Nat) (ops : Array Oper) (Q : (Nat → AV) → Store → Prop) : List An → List Oper → Nat → Nat → List (Nat × Store) → List Pend → (Nat → AV) → Store → Prop
  | _, [], _, _, _, _, f, σ => Q f σ
  | .q ps :: an, o :: l, k, cur, past, pend, f, σ => (match aGuard ops f o with
    | some g => (g = true → opR E ow o f σ fun a => (pureOp ow o = false → oblA E ow o f a ps past) ∧ aput N f o.dst a fun f' => aopsE E ow N ops Q an l (k + 1) cur past (if pureOp ow o = true then pend else ⟨ps, o, f, a⟩ :: pend) f' σ) ∧
        (g = false → aput N f o.dst (.tup []) fun f' => aopsE E ow N ops Q an l (k + 1) cur past pend f' σ)
    | none => False)
  | .e :: an, o :: l, k, cur, past, pend, f, σ => (match aGuard ops f o with
    | some g => (g = true → opD E ow o f σ fun a σ' => oblB E ow (k + 1) σ' pend ∧ aput N f o.dst a fun f' => aopsE E ow N ops Q an l (k + 1) (k + 1) ((cur, σ) :: past) pend f' σ') ∧
        (g = false → oblB E ow (k + 1) σ pend ∧ aput N f o.dst (.tup []) fun f' => aopsE E ow N ops Q an l (k + 1) (k + 1) ((cur, σ) :: past) pend f' σ)
    | none => False)
  | [], _ :: _, _, _, _, _, _, _ => False

/-- What is known of one operation. -/
def StepOk (E : Env) (ow : List Nat) (N : Nat) (ops : Array Oper) (an : List An) (S : Nat → Store) (A : Nat → AV) (G : Nat → Bool) (F : Nat → Nat → AV) (j : Nat) (o : Oper) : Prop :=
  (∀ d, o.dst = some d → d < N) ∧ aGuard ops (F j) o = some (G j) ∧ F (j + 1) = fput (F j) o.dst (A j) ∧ (G j = false → A j = .tup []) ∧
  match an[j]? with
  | some (.q ps) => G j = true → ∀ p ∈ ps, pos an p = true → p ≤ an.length → opK E ow o (F j) (S p) fun a' σ' => a' = A j ∧ σ' = S p
  | some .e => (G j = true → opK E ow o (F j) (S (lastPos an j)) fun a' σ' => a' = A j ∧ σ' = S (j + 1)) ∧ (G j = false → S (j + 1) = S (lastPos an j))
  | none => False

theorem oblA_mem {o : Oper} {f : Nat → AV} {a : AV} {ps : List Nat} : ∀ {l : List (Nat × Store)}, oblA E ow o f a ps l → ∀ x ∈ l, x.1 ∈ ps → opK E ow o f x.2 fun a' σ' => a' = a ∧ σ' = x.2
  | [], _, x, hx, _ => by cases hx
  | y :: l, h, x, hx, hp => by
    rcases List.mem_cons.1 hx with rfl | hx
    · exact h.1 hp
    · exact oblA_mem h.2 x hx hp

theorem oblB_mem {p : Nat} {σ : Store} : ∀ {l : List Pend}, oblB E ow p σ l → ∀ x ∈ l, p ∈ x.ps → opK E ow x.o x.f σ fun a' σ' => a' = x.a ∧ σ' = σ
  | [], _, x, hx, _ => by cases hx
  | y :: l, h, x, hx, hp => by
    rcases List.mem_cons.1 hx with rfl | hx
    · exact h.1 hp
    · exact oblB_mem h.2 x hx hp

theorem pos_succ {an : List An} {k : Nat} : pos an (k + 1) = true ↔ an[k]? = some .e := by
  unfold pos
  simp only [Nat.add_sub_cancel, Bool.or_eq_true, beq_iff_eq, Nat.succ_ne_zero, false_or]
  split
  · simp_all
  · simp_all

theorem lastPos_spec (an : List An) : ∀ j, pos an (lastPos an j) = true ∧ lastPos an j ≤ j ∧ ∀ p, pos an p = true → p ≤ j → p ≤ lastPos an j
  | 0 => ⟨rfl, Nat.le_refl _, fun p _ h => h⟩
  | j + 1 => by
    obtain ⟨h1, h2, h3⟩ := lastPos_spec an j
    unfold lastPos
    split
    · rename_i he
      exact ⟨pos_succ.2 he, Nat.le_refl _, fun p _ h => h⟩
    · rename_i hne
      refine ⟨h1, by omega, fun p hp hle => ?_⟩
      rcases Nat.lt_or_ge j p with h | h
      · have : p = j + 1 := by omega
        subst this
        exact absurd (pos_succ.1 hp) hne
      · exact h3 p hp h

set_option maxHeartbeats 2000000 in
theorem aopsE_plan {Q : (Nat → AV) → Store → Prop} (full : List An) : ∀ (l : List Oper) (an : List An) (k cur : Nat) (past : List (Nat × Store)) (pend : List Pend) (f : Nat → AV) (σ : Store) (S0 : Nat → Store),
    (∀ j, l[j]? = ops[k + j]?) → (∀ j, an[j]? = full[k + j]?) → full.length = k + l.length → cur = lastPos full k → (∀ p, pos full p = true → p ≤ k → p = cur ∨ ∃ x ∈ past, x.1 = p) →
    S0 cur = σ → (∀ x ∈ past, x.1 ≤ k ∧ S0 x.1 = x.2) → aopsE E ow N ops Q an l k cur past pend f σ →
    ∃ (S : Nat → Store) (A : Nat → AV) (G : Nat → Bool) (F : Nat → Nat → AV), (∀ p, p ≤ k → S p = S0 p) ∧ F k = f ∧
      (∀ j o, k ≤ j → ops[j]? = some o → StepOk E ow N ops full S A G F j o) ∧
      (∀ x ∈ pend, ∀ p ∈ x.ps, pos full p = true → k < p → p ≤ full.length → opK E ow x.o x.f (S p) fun a' σ' => a' = x.a ∧ σ' = S p) ∧
      Q (F full.length) (S (lastPos full full.length))
  | [], an, k, cur, past, pend, f, σ, S0, hl, ha, hn, hc, hcov, h0, hp, h => by
    have hn : full.length = k := by simpa using hn
    refine ⟨S0, fun _ => .junk, fun _ => true, fun _ => f, fun _ _ => rfl, rfl, ?_, ?_, ?_⟩
    · intro j o hj ho
      have := hl (j - k)
      rw [show k + (j - k) = j by omega, ho] at this
      simp at this
    · intro x hx p hpx hpos h1 h2; omega
    · rw [hn, ← hc, h0]
      unfold aopsE at h
      exact h
  | o :: l, an, k, cur, past, pend, f, σ, S0, hl, ha, hn, hc, hcov, h0, hp, h => by
    have hok : ops[k]? = some o := by simpa using (hl 0).symm
    have hl' : ∀ j, l[j]? = ops[k + 1 + j]? := fun j => by have := hl (j + 1); simpa [Nat.add_assoc, Nat.add_comm 1 j] using this
    have hn' : full.length = k + 1 + l.length := by simp at hn; omega
    cases an with
    | nil => unfold aopsE at h; exact h.elim
    | cons x an =>
      have hx : full[k]? = some x := by simpa using (ha 0).symm
      have ha' : ∀ j, an[j]? = full[k + 1 + j]? := fun j => by have := ha (j + 1); simpa [Nat.add_assoc, Nat.add_comm 1 j] using this
      have hcur := lastPos_spec full k
      rw [← hc] at hcur
      obtain ⟨c1, c2, c3⟩ := hcur
      cases x with
      | q ps =>
        have hlast : cur = lastPos full (k + 1) := by rw [lastPos, hx]; exact hc
        have hnot : pos full (k + 1) ≠ true := fun hh => by rw [pos_succ, hx] at hh; cases hh
        have hcov' : ∀ p, pos full p = true → p ≤ k + 1 → p = cur ∨ ∃ x ∈ past, x.1 = p := fun p h1 h2 => by
          rcases Nat.lt_or_ge k p with h3 | h3
          · have : p = k + 1 := by omega
            subst this; exact absurd h1 hnot
          · exact hcov p h1 h3
        have hp' : ∀ x ∈ past, x.1 ≤ k + 1 ∧ S0 x.1 = x.2 := fun x hx => ⟨Nat.le_succ_of_le (hp x hx).1, (hp x hx).2⟩
        unfold aopsE at h
        cases hg : aGuard ops f o with
        | none => rw [hg] at h; exact h.elim
        | some g =>
          rw [hg] at h
          have key : ∀ (a : AV) (pend' : List Pend), (∀ x ∈ pend, x ∈ pend') → (g = false → a = .tup []) → (g = true → opK E ow o f σ (fun a' σ' => a' = a ∧ σ' = σ) ∧ (pureOp ow o = false → oblA E ow o f a ps past ∧ (⟨ps, o, f, a⟩ : Pend) ∈ pend')) →
              aput N f o.dst a (fun f' => aopsE E ow N ops Q an l (k + 1) cur past pend' f' σ) →
              ∃ (S : Nat → Store) (A : Nat → AV) (G : Nat → Bool) (F : Nat → Nat → AV), (∀ p, p ≤ k → S p = S0 p) ∧ F k = f ∧
                (∀ j o, k ≤ j → ops[j]? = some o → StepOk E ow N ops full S A G F j o) ∧
                (∀ x ∈ pend, ∀ p ∈ x.ps, pos full p = true → k < p → p ≤ full.length → opK E ow x.o x.f (S p) fun a' σ' => a' = x.a ∧ σ' = S p) ∧
                Q (F full.length) (S (lastPos full full.length)) := by
            intro a pend' hsub hga hgt hh
            obtain ⟨hd, hh⟩ := aput_iff.1 hh
            obtain ⟨S, A, G, F, i1, i2, i3, i4, i5⟩ := aopsE_plan full l an (k + 1) cur past pend' _ σ S0 hl' ha' hn' hlast hcov' h0 hp' hh
            refine ⟨S, fun j => if j = k then a else A j, fun j => if j = k then g else G j, fun j => if j = k then f else F j, fun p hpk => i1 p (by omega), by simp, ?_, ?_, ?_⟩
            · intro j o' hj ho'
              by_cases hjk : j = k
              · subst hjk
                rw [hok] at ho'
                obtain rfl := Option.some.inj ho'
                refine ⟨hd, by simp only [if_true]; exact hg, by simp [i2], by simpa using hga, ?_⟩
                rw [hx]
                simp only [if_true]
                intro hgg p hpps hpos hpl
                obtain ⟨o2, o13⟩ := hgt hgg
                cases hpu : pureOp ow o with
                | true => exact pureOp_ok hpu o2
                | false =>
                obtain ⟨o1, o3⟩ := o13 hpu
                rcases Nat.lt_or_ge j p with hlt | hge
                · exact i4 _ o3 p hpps hpos (by
                    rcases Nat.lt_or_ge (j + 1) p with h' | h'
                    · exact h'
                    · have : p = j + 1 := by omega
                      subst this; exact absurd hpos hnot) hpl
                · rw [i1 p (by omega)]
                  rcases hcov p hpos hge with rfl | ⟨x, hx1, rfl⟩
                  · rw [h0]; exact o2
                  · rw [(hp x hx1).2]; exact oblA_mem o1 x hx1 hpps
              · have := i3 j o' (by omega) ho'
                unfold StepOk at this ⊢
                simp only [if_neg hjk, if_neg (show ¬ j + 1 = k by omega)]
                exact this
            · intro x hx1 p hpx hpos h1 h2
              exact i4 x (hsub x hx1) p hpx hpos (by
                    rcases Nat.lt_or_ge (k + 1) p with h' | h'
                    · exact h'
                    · have : p = k + 1 := by omega
                      subst this; exact absurd hpos hnot) h2
            · simpa [show full.length ≠ k by omega] using i5
          cases g with
          | true =>
            obtain ⟨a, q1, q2, q3⟩ := opR_ok (h.1 rfl)
            exact key a _ (fun x hx => by split <;> first | exact hx | exact List.mem_cons_of_mem _ hx) (by simp) (fun _ => ⟨q1, fun hpu => ⟨q2 hpu, by simp [hpu]⟩⟩) q3
          | false => exact key _ pend (fun x hx => hx) (fun _ => rfl) (by simp) (h.2 rfl)
      | e =>
        have hlast : k + 1 = lastPos full (k + 1) := by rw [lastPos, hx]
        have hpk : pos full (k + 1) = true := by rw [pos_succ, hx]
        have hcov' : ∀ σ', ∀ p, pos full p = true → p ≤ k + 1 → p = k + 1 ∨ ∃ x ∈ (cur, σ') :: past, x.1 = p := fun σ' p h1 h2 => by
          rcases Nat.lt_or_ge k p with h3 | h3
          · exact .inl (by omega)
          · rcases hcov p h1 h3 with rfl | ⟨x, hx, h⟩
            · exact .inr ⟨(p, σ'), by simp, rfl⟩
            · exact .inr ⟨x, List.mem_cons_of_mem _ hx, h⟩
        unfold aopsE at h
        cases hg : aGuard ops f o with
        | none => rw [hg] at h; exact h.elim
        | some g =>
          rw [hg] at h
          have key : ∀ (a : AV) (σ' : Store), (g = false → a = .tup [] ∧ σ' = σ) → (g = true → opK E ow o f σ (fun a' σ'' => a' = a ∧ σ'' = σ')) → oblB E ow (k + 1) σ' pend →
              aput N f o.dst a (fun f' => aopsE E ow N ops Q an l (k + 1) (k + 1) ((cur, σ) :: past) pend f' σ') →
              ∃ (S : Nat → Store) (A : Nat → AV) (G : Nat → Bool) (F : Nat → Nat → AV), (∀ p, p ≤ k → S p = S0 p) ∧ F k = f ∧
                (∀ j o, k ≤ j → ops[j]? = some o → StepOk E ow N ops full S A G F j o) ∧
                (∀ x ∈ pend, ∀ p ∈ x.ps, pos full p = true → k < p → p ≤ full.length → opK E ow x.o x.f (S p) fun a' σ' => a' = x.a ∧ σ' = S p) ∧
                Q (F full.length) (S (lastPos full full.length)) := by
            intro a σ' hga hgt hob hh
            obtain ⟨hd, hh⟩ := aput_iff.1 hh
            obtain ⟨S, A, G, F, i1, i2, i3, i4, i5⟩ := aopsE_plan full l an (k + 1) (k + 1) ((cur, σ) :: past) pend _ σ' (fun p => if p = k + 1 then σ' else S0 p) hl' ha' hn' hlast (hcov' σ) (by simp) (by
              intro x hx
              rcases List.mem_cons.1 hx with rfl | hx
              · exact ⟨by simp; omega, by simp [show cur ≠ k + 1 by omega, h0]⟩
              · have := hp x hx
                exact ⟨by omega, by simp [show x.1 ≠ k + 1 by omega, this.2]⟩) hh
            have hS : S (k + 1) = σ' := by rw [i1 (k + 1) (Nat.le_refl _)]; simp
            have hSo : ∀ p, p ≤ k → S p = S0 p := fun p hpk => by rw [i1 p (by omega)]; simp [show p ≠ k + 1 by omega]
            refine ⟨S, fun j => if j = k then a else A j, fun j => if j = k then g else G j, fun j => if j = k then f else F j, hSo, by simp, ?_, ?_, ?_⟩
            · intro j o' hj ho'
              by_cases hjk : j = k
              · subst hjk
                rw [hok] at ho'
                obtain rfl := Option.some.inj ho'
                refine ⟨hd, by simp only [if_true]; exact hg, by simp [i2], by simp; exact fun e => (hga e).1, ?_⟩
                rw [hx]
                simp only [if_true]
                rw [← hc, hS, hSo cur c2, h0]
                exact ⟨hgt, fun e => (hga e).2⟩
              · have := i3 j o' (by omega) ho'
                unfold StepOk at this ⊢
                simp only [if_neg hjk, if_neg (show ¬ j + 1 = k by omega)]
                exact this
            · intro x hx1 p hpx hpos h1 h2
              rcases Nat.lt_or_ge (k + 1) p with h' | h'
              · exact i4 x hx1 p hpx hpos h' h2
              · have : p = k + 1 := by omega
                subst this
                rw [hS]
                exact oblB_mem hob x hx1 hpx
            · simpa [show full.length ≠ k by omega] using i5
          cases g with
          | true =>
            obtain ⟨a, σ', q1, q2, q3⟩ := opD_ok (h.1 rfl)
            exact key a σ' (by simp) (fun _ => q1) q2 q3
          | false => exact key _ σ (fun _ => ⟨rfl, rfl⟩) (by simp) (h.2 rfl).1 (h.2 rfl).2

theorem fput_other {f : Nat → AV} {d : Option Tmp} {a : AV} {t : Nat} (h : d ≠ some t) : fput f d a t = f t := by
  cases d with
  | none => rfl
  | some e =>
    have : t ≠ e := fun hte => h (by rw [hte])
    simp [fput, upd, this]

theorem getD_set_ne' {listed : Array Bool} {i j : Nat} (h : i ≠ j) : (listed.setIfInBounds i true).getD j false = listed.getD j false := by
  simp [Array.getElem?_setIfInBounds_ne h]

theorem isE_iff {an : List An} {k : Nat} : ((an[k]?.map An.isE).getD false = true) ↔ an[k]? = some .e := by
  cases h : an[k]? with
  | none => simp
  | some a => cases a <;> simp [An.isE]

structure PlanAt (l : List Oper) (an : List An) (i : Nat) (o : Oper) (a : An) (ps : List Nat) : Prop where
  hAn : an[i]? = some a
  pre : (preOf l [])[i]? = some ps
  low : ∀ j ∈ onlyOn o, j < i
  clo : ∀ j ∈ ps, ∃ k ∈ onlyOn o, k = j ∨ j ∈ (preOf l []).getD k []
  look : ∀ k ok d, l[k]? = some ok → k ≠ i → ok.dst = some d → (d ∈ o.looksAt l.toArray → (k ∈ ps ∧ k < i) ∨ (i ∈ (preOf l []).getD k [] ∧ i < k)) ∧ o.dst ≠ some d
  eff : a = .e → ∀ k, k < i → an[k]? = some .e → k ∈ ps
  win : ∀ w, a = .q w → ∀ p, p ≤ l.length → pos an p = true → p ∈ w ∨ ∃ k, an[k]? = some .e ∧ ((k ∈ ps ∧ p ≤ k) ∨ (i ∈ (preOf l []).getD k [] ∧ k < p))

theorem planOk_spec {l : List Oper} {an : List An} (h : planOk l an = true) : an.length = l.length ∧ ∀ i o, l[i]? = some o → ∃ a ps, PlanAt l an i o a ps := by
  unfold planOk at h
  simp only [Bool.and_eq_true, beq_iff_eq] at h
  obtain ⟨⟨h1, h2⟩, h3⟩ := h
  refine ⟨h1, fun i o ho => ?_⟩
  have hi : i < l.length := (List.getElem?_eq_some_iff.1 ho).1
  have h4 := List.all_eq_true.1 h3 i (List.mem_range.2 hi)
  have ha : an[i]? = some an[i] := List.getElem?_eq_getElem (by omega)
  have hp : (preOf l [])[i]? = some (preOf l [])[i] := List.getElem?_eq_getElem (by omega)
  generalize hA : an[i] = a at ha
  generalize hP : (preOf l [])[i] = ps at hp
  rw [ho, ha, hp] at h4
  simp only [Bool.and_eq_true] at h4
  obtain ⟨⟨⟨c1, c2⟩, c3⟩, c4⟩ := h4
  refine ⟨a, ps, ha, hp, ?_, ?_, ?_, ?_, ?_⟩
  · intro j hj; simpa using List.all_eq_true.1 c1 j hj
  · intro j hj
    have := List.all_eq_true.1 c2 j hj
    obtain ⟨k, hk, hh⟩ := List.any_eq_true.1 this
    refine ⟨k, hk, ?_⟩
    simpa using hh
  · intro k ok d hk hne hd
    have hkl : k < l.length := (List.getElem?_eq_some_iff.1 hk).1
    have := List.all_eq_true.1 c3 k (List.mem_range.2 hkl)
    simp only [hk, Option.bind_some, hd, Bool.or_eq_true, beq_iff_eq, hne, false_or, Bool.and_eq_true, Bool.not_eq_true', decide_eq_true_eq, List.contains_eq_mem, decide_eq_false_iff_not, beq_eq_false_iff_ne] at this
    refine ⟨fun hm => ?_, this.2⟩
    rcases this.1 with (h | h) | h
    · exact absurd hm h
    · exact .inl h
    · exact .inr h
  · rintro rfl k hki hk
    have := List.all_eq_true.1 c4 k (List.mem_range.2 (by omega))
    have hE := isE_iff.2 hk
    simpa [hE, hki] using this
  · rintro w rfl p hp hpos
    have := List.all_eq_true.1 c4 p (List.mem_range.2 (by omega))
    simp only [hpos, Bool.not_true, Bool.false_or, Bool.or_eq_true] at this
    rcases this with hw | hw
    · exact .inl (by simpa using hw)
    · obtain ⟨k, _, hk⟩ := List.any_eq_true.1 hw
      simp only [Bool.and_eq_true, Bool.or_eq_true, decide_eq_true_eq, List.contains_eq_mem] at hk
      exact .inr ⟨k, isE_iff.1 hk.1, hk.2⟩

theorem filter_lt {p q : Nat → Bool} (hpq : ∀ j, q j = true → p j = true) {i : Nat} (hp : p i = true) (hq : q i = false) : ∀ (l : List Nat), i ∈ l → (l.filter q).length < (l.filter p).length
  | [], h => by cases h
  | x :: l, h => by
    have hle : ∀ l : List Nat, (l.filter q).length ≤ (l.filter p).length := by
      intro l
      induction l with
      | nil => simp
      | cons y l ih =>
        simp only [List.filter_cons]
        by_cases h1 : q y = true
        · simp [h1, hpq y h1, ih]
        · simp only [h1, if_false, Bool.false_eq_true]
          split
          · simp; omega
          · exact ih
    rcases List.mem_cons.1 h with rfl | h
    · simp only [List.filter_cons, hp, hq, if_true, Bool.false_eq_true, if_false, List.length_cons]
      have := hle l; omega
    · have ih := filter_lt hpq hp hq l h
      simp only [List.filter_cons]
      by_cases h1 : q x = true
      · simp [h1, hpq x h1, ih]
      · simp only [h1, if_false, Bool.false_eq_true]
        split
        · simp; omega
        · exact ih

/-- How a state within such a region looks. -/
structure InvE (l : List Oper) (an : List An) (f0 : Nat → AV) (S : Nat → Store) (A : Nat → AV) (listed : Array Bool) (f : Nat → AV) (σ : Store) : Prop where
  sz : listed.size = l.length
  clo : ∀ (i : Nat) (o : Oper), l[i]? = some o → listed.getD i false = true → ∀ j ∈ onlyOn o, listed.getD j false = true
  fa : ∀ (i : Nat) (o : Oper) (d : Tmp), l[i]? = some o → listed.getD i false = true → o.dst = some d → f d = A i
  fb : ∀ t : Nat, (∀ (i : Nat) (o : Oper), l[i]? = some o → listed.getD i false = true → o.dst ≠ some t) → f t = f0 t
  st : ∃ p, pos an p = true ∧ p ≤ l.length ∧ σ = S p ∧ ∀ q, an[q]? = some .e → (listed.getD q false = true ↔ q < p)

theorem ready_iff {l : List Oper} {listed : Array Bool} {j : Nat} (hsz : listed.size = l.length) : j ∈ Region.ready .any l.toArray listed ↔ listed.getD j false = false ∧ ∃ o, l[j]? = some o ∧ ∀ k ∈ onlyOn o, listed.getD k false = true := by
  rw [mem_ready]
  have e1 : ∀ o : Oper, (∀ e ∈ o.after, Region.binds .any e = true → listed.getD e.on false = true) ↔ ∀ k ∈ onlyOn o, listed.getD k false = true := by
    intro o
    unfold onlyOn
    simp only [List.mem_map, List.mem_filter, Array.mem_toList_iff]
    constructor
    · rintro h k ⟨e, ⟨h1, h2⟩, rfl⟩; exact h e h1 h2
    · intro h e h1 h2; exact h e.on ⟨e, ⟨h1, h2⟩, rfl⟩
  simp only [e1]
  constructor
  · rintro ⟨h1, o, ho, h2⟩
    have ho : l[j]? = some o := by simpa using ho
    have hj : j < listed.size := by rw [hsz]; exact (List.getElem?_eq_some_iff.1 ho).1
    exact ⟨by simpa [hj] using h1, o, ho, h2⟩
  · rintro ⟨h1, o, ho, h2⟩
    have hj : j < listed.size := by rw [hsz]; exact (List.getElem?_eq_some_iff.1 ho).1
    exact ⟨by simpa [hj] using h1, o, by simpa using ho, h2⟩

theorem pos_same {an : List An} {p q n : Nat} (hp : pos an p = true) (hq : pos an q = true) (hpn : p ≤ n) (hqn : q ≤ n) (h : ∀ k, k < n → an[k]? = some .e → (k < p ↔ k < q)) : p = q := by
  rcases Nat.lt_trichotomy p q with h1 | h1 | h1
  · cases q with
    | zero => omega
    | succ k => have := (h k (by omega) (pos_succ.1 hq)); omega
  · exact h1
  · cases p with
    | zero => omega
    | succ k => have := (h k (by omega) (pos_succ.1 hp)); omega

theorem anyE_of_plan {l : List Oper} {an : List An} (hB : planOk l an = true) {f0 : Nat → AV} {σ0 : Store} {Q : (Nat → AV) → Store → Prop} (h : aopsE E ow N l.toArray Q an l 0 0 [] [] f0 σ0) :
    anyE E ow N .any l.toArray Q l.length (Array.replicate l.length false) f0 σ0 := by
  obtain ⟨hlen, hplan⟩ := planOk_spec hB
  obtain ⟨S, A, G, F, i1, i2, i3, _, i5⟩ := aopsE_plan (ops := l.toArray) an l an 0 0 [] [] f0 σ0 (fun _ => σ0) (by simp) (by simp) (by simpa using hlen) rfl (fun p _ h => .inl (by omega)) rfl (by simp) h
  have hS0 : S 0 = σ0 := i1 0 (Nat.le_refl _)
  -- the frames in the order of the text
  have hF : ∀ i, i ≤ l.length → (∀ (k : Nat) (o : Oper) (d : Tmp), k < i → l[k]? = some o → o.dst = some d → F i d = A k) ∧ ∀ t : Nat, (∀ (k : Nat) (o : Oper), k < i → l[k]? = some o → o.dst ≠ some t) → F i t = f0 t := by
    intro i
    induction i with
    | zero => intro _; exact ⟨fun k _ _ hk => absurd hk (Nat.not_lt_zero _), fun t _ => by rw [i2]⟩
    | succ i ih =>
      intro hi
      obtain ⟨ha, hb⟩ := ih (by omega)
      have ho : l[i]? = some l[i] := List.getElem?_eq_getElem (by omega)
      obtain ⟨a, ps, hp⟩ := hplan i _ ho
      obtain ⟨_, _, hF', _⟩ := i3 i l[i] (Nat.zero_le _) (by simp)
      rw [hF']
      refine ⟨fun k o d hk hko hd => ?_, fun t ht => ?_⟩
      · by_cases hki : k = i
        · subst hki
          rw [ho] at hko
          obtain rfl := Option.some.inj hko
          simp [fput, hd, upd]
        · have := (hp.look k o d hko hki hd).2
          rw [← ha k o d (by omega) hko hd]
          exact fput_other this
      · have h1 := ht i _ (Nat.lt_succ_self _) ho
        rw [← hb t fun k o hk hko => ht k o (by omega) hko]
        exact fput_other h1
  -- everything before an operation has come up when it comes up
  have hpre : ∀ (listed : Array Bool), (∀ (i : Nat) (o : Oper), l[i]? = some o → listed.getD i false = true → ∀ j ∈ onlyOn o, listed.getD j false = true) →
      ∀ (n i : Nat) (o : Oper) (a : An) (ps : List Nat), i < n → l[i]? = some o → PlanAt l an i o a ps → (∀ j ∈ onlyOn o, listed.getD j false = true) → ∀ j ∈ ps, listed.getD j false = true := by
    intro listed hcl n
    induction n with
    | zero => intro i _ _ _ h; omega
    | succ n ih =>
      intro i o a ps hin ho hp hall j hj
      obtain ⟨k, hk, hkj⟩ := hp.clo j hj
      rcases hkj with rfl | hkj
      · exact hall k hk
      · have hki := hp.low k hk
        have hil : i < l.length := (List.getElem?_eq_some_iff.1 ho).1
        have hko : l[k]? = some l[k] := List.getElem?_eq_getElem (by omega)
        obtain ⟨a', ps', hp'⟩ := hplan k _ hko
        refine ih k _ a' ps' (by omega) hko hp' (hcl k _ hko (hall k hk)) j ?_
        simpa [List.getD, hp'.pre] using hkj
  have main : ∀ (fuel : Nat) (listed : Array Bool) (f : Nat → AV) (σ : Store), InvE l an f0 S A listed f σ → ((List.range l.length).filter fun i => !listed.getD i false).length ≤ fuel → anyE E ow N .any l.toArray Q fuel listed f σ := by
    have fin : ∀ (listed : Array Bool) (f : Nat → AV) (σ : Store), InvE l an f0 S A listed f σ → Region.ready .any l.toArray listed = [] → Q f σ := by
      intro listed f σ inv hr
      have all : ∀ n, ∀ i, i < n → i < l.length → listed.getD i false = true := by
        intro n
        induction n with
        | zero => intro i h; omega
        | succ n ih =>
          intro i hi hil
          cases hl : listed.getD i false with
          | true => rfl
          | false =>
            have ho : l[i]? = some l[i] := List.getElem?_eq_getElem hil
            obtain ⟨a, ps, hp⟩ := hplan i _ ho
            have : i ∈ Region.ready .any l.toArray listed := (ready_iff inv.sz).2 ⟨hl, _, ho, fun k hk => ih k (by have := hp.low k hk; omega) (by have := hp.low k hk; omega)⟩
            rw [hr] at this; cases this
      have all' : ∀ i, i < l.length → listed.getD i false = true := fun i hi => all l.length i hi hi
      obtain ⟨hFa, hFb⟩ := hF l.length (Nat.le_refl _)
      have hf : f = F l.length := by
        funext t
        by_cases ht : ∃ (i : Nat) (o : Oper), l[i]? = some o ∧ o.dst = some t
        · obtain ⟨i, o, ho, hd⟩ := ht
          have hil : i < l.length := (List.getElem?_eq_some_iff.1 ho).1
          rw [inv.fa i o t ho (all' i hil) hd, hFa i o t hil ho hd]
        · rw [inv.fb t fun i o ho _ hd => ht ⟨i, o, ho, hd⟩, hFb t fun i o _ ho hd => ht ⟨i, o, ho, hd⟩]
      obtain ⟨p, hp1, hp2, hp3, hp4⟩ := inv.st
      obtain ⟨q1, q2, q3⟩ := lastPos_spec an l.length
      have : p = lastPos an l.length := pos_same hp1 q1 hp2 q2 fun k hk he => by
        have h1 := (hp4 k he).1 (all' k hk)
        have h2 := q3 (k + 1) (pos_succ.2 he) (by omega)
        exact ⟨fun _ => by omega, fun _ => h1⟩
      rw [hf, hp3, this]
      rw [hlen] at i5
      exact i5
    intro fuel
    induction fuel with
    | zero =>
      intro listed f σ inv hm
      have hr : Region.ready .any l.toArray listed = [] := by
        cases hr : Region.ready .any l.toArray listed with
        | nil => rfl
        | cons j r =>
          have hj : j ∈ Region.ready .any l.toArray listed := by rw [hr]; simp
          obtain ⟨h1, o, ho, _⟩ := (ready_iff inv.sz).1 hj
          have : j ∈ (List.range l.length).filter fun i => !listed.getD i false := List.mem_filter.2 ⟨List.mem_range.2 (List.getElem?_eq_some_iff.1 ho).1, by simp [h1]⟩
          have := List.length_pos_of_mem this
          omega
      exact ⟨hr, fin listed f σ inv hr⟩
    | succ fuel ih =>
      intro listed f σ inv hm
      refine ⟨fin listed f σ inv, fun i hi => ?_⟩
      obtain ⟨hun, o, ho, hall⟩ := (ready_iff inv.sz).1 hi
      have hil : i < l.length := (List.getElem?_eq_some_iff.1 ho).1
      obtain ⟨a, ps, hp⟩ := hplan i o ho
      have hps := hpre listed inv.clo (i + 1) i o a ps (Nat.lt_succ_self _) ho hp hall
      obtain ⟨s1, s2, s3, s4, s5⟩ := i3 i o (Nat.zero_le _) (by simpa using ho)
      obtain ⟨hFa, hFb⟩ := hF i (by omega)
      have hlook : ∀ t ∈ o.looksAt l.toArray, f t = F i t := by
        intro t ht
        by_cases hex : ∃ (k : Nat) (ok : Oper), k ≠ i ∧ l[k]? = some ok ∧ ok.dst = some t
        · obtain ⟨k, ok, hki, hko, hkd⟩ := hex
          obtain ⟨h1, _⟩ := hp.look k ok t hko hki hkd
          rcases h1 ht with ⟨h2, h3⟩ | ⟨h2, h3⟩
          · rw [inv.fa k ok t hko (hps k h2) hkd, hFa k ok t h3 hko hkd]
          · obtain ⟨a', ps', hp'⟩ := hplan k ok hko
            have hone : ∀ (k' : Nat) (ok' : Oper), l[k']? = some ok' → ok'.dst = some t → k' = k := fun k' ok' hk' hd' => by
              refine Classical.byContradiction fun hne => ?_
              exact (hp'.look k' ok' t hk' hne hd').2 hkd
            have e1 : f t = f0 t := inv.fb t fun k' ok' hk' hl' hd' => by
              have := hone k' ok' hk' hd'
              subst this
              have := hpre listed inv.clo (k' + 1) k' ok a' ps' (Nat.lt_succ_self _) hko hp' (inv.clo k' ok hko hl') i (by simpa [List.getD, hp'.pre] using h2)
              rw [hun] at this; cases this
            have e2 : F i t = f0 t := hFb t fun k' ok' hk' hko' hd' => by
              have := hone k' ok' hko' hd'
              omega
            rw [e1, e2]
        · have hnone : ∀ (k : Nat) (ok : Oper), k ≠ i → l[k]? = some ok → ok.dst ≠ some t := fun k ok h1 h2 h3 => hex ⟨k, ok, h1, h2, h3⟩
          rw [inv.fb t fun k ok hko hl => hnone k ok (fun e => by subst e; rw [hun] at hl; cases hl) hko, hFb t fun k ok hk hko => hnone k ok (by omega) hko]
      have hset : ∀ j, (listed.setIfInBounds i true).getD j false = if j = i then true else listed.getD j false := by
        intro j
        have : i < listed.size := by rw [inv.sz]; exact hil
        by_cases hji : j = i
        · subst hji; simp [this]
        · rw [getD_set_ne' (Ne.symm hji)]; simp [hji]
      have hstep : ∀ σ', (∃ p, pos an p = true ∧ p ≤ l.length ∧ σ' = S p ∧ ∀ q, an[q]? = some .e → ((listed.setIfInBounds i true).getD q false = true ↔ q < p)) →
          anyE E ow N .any l.toArray Q fuel (listed.setIfInBounds i true) (fput f o.dst (A i)) σ' := by
        intro σ' hst
        refine ih _ _ _ ⟨by simpa using inv.sz, ?_, ?_, ?_, hst⟩ ?_
        · intro k ok hko hk j hj
          rw [hset] at hk ⊢
          split
          · rfl
          · split at hk
            · rename_i e; subst e
              rw [ho] at hko
              obtain rfl := Option.some.inj hko
              exact hall j hj
            · exact inv.clo k ok hko hk j hj
        · intro k ok d hko hk hd
          rw [hset] at hk
          by_cases hki : k = i
          · subst hki
            rw [ho] at hko
            obtain rfl := Option.some.inj hko
            simp [fput, hd, upd]
          · rw [if_neg hki] at hk
            rw [← inv.fa k ok d hko hk hd]
            exact fput_other (hp.look k ok d hko hki hd).2
        · intro t ht
          have h1 := ht i o ho (by rw [hset]; simp)
          rw [← inv.fb t fun k ok hko hk => ht k ok hko (by rw [hset]; split <;> first | rfl | exact hk)]
          exact fput_other h1
        · have := filter_lt (p := fun i => !listed.getD i false) (q := fun j => !(listed.setIfInBounds i true).getD j false) (i := i) (fun j hj => by
            rw [hset] at hj
            split at hj
            · cases hj
            · exact hj) (by simp [hun]) (by rw [hset]; simp) (List.range l.length) (List.mem_range.2 hil)
          omega
      obtain ⟨p, hp1, hp2, hp3, hp4⟩ := inv.st
      unfold qE
      have hoa : l.toArray[i]? = some o := by simpa using ho
      simp only [hoa]
      rw [aGuard_looks hlook, s2]
      simp only
      rw [hp.hAn] at s5
      cases a with
      | q w =>
        have hstay : ∃ p, pos an p = true ∧ p ≤ l.length ∧ σ = S p ∧ ∀ q, an[q]? = some .e → ((listed.setIfInBounds i true).getD q false = true ↔ q < p) := by
          refine ⟨p, hp1, hp2, hp3, fun q hq => ?_⟩
          rw [hset]
          have : q ≠ i := fun e => by subst e; rw [hp.hAn] at hq; cases hq
          rw [if_neg this]; exact hp4 q hq
        refine ⟨fun hg => ?_, fun hg => ?_⟩
        · have hw : p ∈ w := by
            rcases hp.win w rfl p hp2 hp1 with h1 | ⟨k, hk, ⟨h1, h2⟩ | ⟨h1, h2⟩⟩
            · exact h1
            · have := (hp4 k hk).1 (hps k h1); omega
            · have hl := (hp4 k hk).2 h2
              have hkl : k < l.length := by
                have := (List.getElem?_eq_some_iff.1 hk).1; omega
              have hko : l[k]? = some l[k] := List.getElem?_eq_getElem hkl
              obtain ⟨a', ps', hp'⟩ := hplan k _ hko
              have := hpre listed inv.clo (k + 1) k _ a' ps' (Nat.lt_succ_self _) hko hp' (inv.clo k _ hko hl) i (by simpa [List.getD, hp'.pre] using h1)
              rw [hun] at this; cases this
          have := s5 hg p hw hp1 (by omega)
          rw [← opK_looks hlook, ← hp3] at this
          exact ⟨_, _, this, aput_iff.2 ⟨s1, hstep σ hstay⟩⟩
        · rw [aput_iff, ← s4 hg]
          exact ⟨s1, hstep σ hstay⟩
      | e =>
        have hpi : p = lastPos an i := by
          obtain ⟨q1, q2, q3⟩ := lastPos_spec an i
          have hpi : p ≤ i := by
            have := (hp4 i hp.hAn)
            rw [hun] at this
            simp at this; exact this
          refine pos_same hp1 q1 hpi q2 fun k hk he => ?_
          have h1 := (hp4 k he).1 (hps k (hp.eff rfl k hk he))
          have h2 := q3 (k + 1) (pos_succ.2 he) (by omega)
          exact ⟨fun _ => by omega, fun _ => h1⟩
        have hnext : ∃ p, pos an p = true ∧ p ≤ l.length ∧ S (i + 1) = S p ∧ ∀ q, an[q]? = some .e → ((listed.setIfInBounds i true).getD q false = true ↔ q < p) := by
          refine ⟨i + 1, pos_succ.2 hp.hAn, by omega, rfl, fun q hq => ?_⟩
          rw [hset]
          by_cases hqi : q = i
          · subst hqi; simp
          · rw [if_neg hqi]
            have hql : q < l.length := by have := (List.getElem?_eq_some_iff.1 hq).1; omega
            constructor
            · intro hl
              rcases Nat.lt_or_ge q i with h1 | h1
              · omega
              · exfalso
                have hqo : l[q]? = some l[q] := List.getElem?_eq_getElem hql
                obtain ⟨a', ps', hp'⟩ := hplan q _ hqo
                have ha' : a' = .e := by have := hp'.hAn; rw [hq] at this; exact (Option.some.inj this).symm
                have := hpre listed inv.clo (q + 1) q _ a' ps' (Nat.lt_succ_self _) hqo hp' (inv.clo q _ hqo hl) i (hp'.eff ha' i (by omega) hp.hAn)
                rw [hun] at this; cases this
            · intro hlt
              exact hps q (hp.eff rfl q (by omega) hq)
        refine ⟨fun hg => ?_, fun hg => ?_⟩
        · have := s5.1 hg
          rw [← opK_looks hlook, ← hpi, ← hp3] at this
          exact ⟨_, _, this, aput_iff.2 ⟨s1, hstep _ hnext⟩⟩
        · rw [aput_iff, ← s4 hg]
          refine ⟨s1, ?_⟩
          rw [hp3, hpi, ← s5.2 hg]
          exact hstep _ hnext
  refine main l.length _ f0 σ0 ⟨by simp, ?_, ?_, fun t _ => rfl, 0, rfl, Nat.zero_le _, hS0.symm, ?_⟩ ?_
  · intro i o ho hi
    exfalso
    have := (List.getElem?_eq_some_iff.1 ho).1
    simp [this] at hi
  · intro i o d ho hi
    exfalso
    have := (List.getElem?_eq_some_iff.1 ho).1
    simp [this] at hi
  · intro q hq
    have := (List.getElem?_eq_some_iff.1 hq).1
    simp [show q < l.length by omega]
  · have := List.length_filter_le (fun i => !(Array.replicate l.length false).getD i false) (List.range l.length)
    simpa using this
end

section
variable {E : Env} {n N : Nat} {f : Nat → AV} {σ : Store} {Q : AExit → (Nat → AV) → Store → Prop}

/-- A region that draws its order; some of its operations change the store. -/
theorem AW.drawE (ow : List Nat) (an : List An) {id : Nat} {l : List Oper} (hm : E.P.follows .mixedOrders = true) (hB : planOk l an = true) (h : aopsE E ow N l.toArray (fun f σ => Q .normal f σ) an l 0 0 [] [] f σ) :
    AW E n N (.region id l.toArray true) f σ Q := by
  intro rd ds0 Γ w a hrd hn hr ht hd
  obtain ⟨hx, hr'⟩ := hr.drew
  refine wpIn_region_any hm ?_
  refine anyE_ok (E := E) (ow := ow) (N := N) (n := n) (Γ0 := Γ) (w0 := w) (rd := rd) (ds0 := ds0) (Q := fun f σ => Q .normal f σ) ?_ ?_ hrd.opAt _ _ f σ Γ _ a (hx.mono hn) hr' (ht.ext hx) (hd.ext hr hx) ?_
  · intro Γ' w' f' σ' a' hx' hr'' ht' hd' hq
    exact .inl ⟨Γ', f', σ', .normal, trivial, hx', hr'', ht', hd', hq⟩
  · intro v w' a' hp hm
    exact .inr ⟨v, rfl, hp, hm⟩
  · have := anyE_of_plan (E := E) (ow := ow) (N := N) hB h
    simpa using this

theorem AW.stepE (ow l : List Nat) (an : List An) {id : Nat} {ops : List Oper} {d : Code} (hm : E.P.follows .mixedOrders = true) (hB : planOk ops an = true)
    (h : ∀ K : List (Nat × AV) → Store → Prop, (∀ L σ, AW E n N d (fr L) σ Q → K L σ) → aopsE E ow N ops.toArray (fun f σ => K (pick l f) σ) an ops 0 0 [] [] f σ) :
    AW E n N (.seq (.region id ops.toArray true) d) f σ Q :=
  AW.seqL l fun K hK => AW.drawE ow an hm hB (h K hK)
end

/-! ### The walk, as simp sees it -/
section
variable {E : Env} {ow : List Nat} {N : Nat} {ops : Array Oper} {Q : (Nat → AV) → Store → Prop}
@[simp] theorem oblA_nil (o : Oper) (f : Nat → AV) (a : AV) (ps : List Nat) : oblA E ow o f a ps [] = True := (rfl)
@[simp] theorem oblA_cons (o : Oper) (f : Nat → AV) (a : AV) (ps : List Nat) (x : Nat × Store) (l : List (Nat × Store)) : oblA E ow o f a ps (x :: l) = ((x.1 ∈ ps → opK E ow o f x.2 (kontS x.2 (· = a))) ∧ oblA E ow o f a ps l) := by
  unfold oblA
  simp only [eq_iff_iff]
  refine and_congr (imp_congr_right fun _ => ?_) ?_
  · rw [show (fun a' σ' => a' = a ∧ σ' = x.2) = kontS x.2 (· = a) from by funext a' σ'; simp [kontS, and_comm]]
  · cases l <;> rfl
@[simp] theorem oblB_nil (p : Nat) (σ : Store) : oblB E ow p σ [] = True := (rfl)
@[simp] theorem oblB_cons (p : Nat) (σ : Store) (x : Pend) (l : List Pend) : oblB E ow p σ (x :: l) = ((p ∈ x.ps → opK E ow x.o x.f σ (kontS σ (· = x.a))) ∧ oblB E ow p σ l) := by
  unfold oblB
  simp only [eq_iff_iff]
  refine and_congr (imp_congr_right fun _ => ?_) ?_
  · rw [show (fun a' σ' => a' = x.a ∧ σ' = σ) = kontS σ (· = x.a) from by funext a' σ'; simp [kontS, and_comm]]
  · cases l <;> rfl

/-- The rest of the walk, behind an answer. -/
def putE (E : Env) (ow : List Nat) (N : Nat) (ops : Array Oper) (Q : (Nat → AV) → Store → Prop) (an : List An) (l : List Oper) (k cur : Nat) (past : List (Nat × Store)) (pend : List Pend) (f : Nat → AV) (σ : Store) (d : Option Tmp) (a : AV) : Prop :=
  aput N f d a fun f' => aopsE E ow N ops Q an l k cur past pend f' σ
@[simp] theorem putE_some (an : List An) (l : List Oper) (k cur : Nat) (past : List (Nat × Store)) (pend : List Pend) (f : Nat → AV) (σ : Store) (d : Tmp) (a : AV) : putE E ow N ops Q an l k cur past pend f σ (some d) a = (d < N ∧ aopsE E ow N ops Q an l k cur past pend (upd f d a) σ) := (rfl)
@[simp] theorem putE_none (an : List An) (l : List Oper) (k cur : Nat) (past : List (Nat × Store)) (pend : List Pend) (f : Nat → AV) (σ : Store) (a : AV) : putE E ow N ops Q an l k cur past pend f σ none a = aopsE E ow N ops Q an l k cur past pend f σ := (rfl)

@[simp] theorem pureOp_eq (ow : List Nat) (o : Oper) : pureOp ow o = (match o.op with
  | .assign x => !(isNil x && (o.dst.map fun d => ow.contains (d + 3000000)).getD false) && !(isNil x && (o.dst.map fun d => ow.contains (d + 4000000)).getD false)
  | .move _ | .pick .. | .build .. | .nilCheck _ | .binOp .. | .unOp .. | .makeInterface .. | .makeFunc .. | .fieldAddr .. | .field .. | .index .. | .extract .. => true
  | .buildSlice .. => (ownN ow o.dst == 0)
  | _ => false) := rfl

def kontQ (E : Env) (ow : List Nat) (N : Nat) (ops : Array Oper) (Q : (Nat → AV) → Store → Prop) (ps : List Nat) (an : List An) (o : Oper) (l : List Oper) (k cur : Nat) (past : List (Nat × Store)) (pend : List Pend) (f : Nat → AV) (σ : Store) (a : AV) : Prop :=
  (pureOp ow o = false → oblA E ow o f a ps past) ∧ aput N f o.dst a fun f' => aopsE E ow N ops Q an l (k + 1) cur past (if pureOp ow o = true then pend else ⟨ps, o, f, a⟩ :: pend) f' σ
@[simp] theorem kontQ_eq (ps : List Nat) (an : List An) (o : Oper) (l : List Oper) (k cur : Nat) (past : List (Nat × Store)) (pend : List Pend) (f : Nat → AV) (σ : Store) (a : AV) : kontQ E ow N ops Q ps an o l k cur past pend f σ a =
    (if pureOp ow o = true then putE E ow N ops Q an l (k + 1) cur past pend f σ o.dst a
    else (oblA E ow o f a ps past ∧ putE E ow N ops Q an l (k + 1) cur past (⟨ps, o, f, a⟩ :: pend) f σ o.dst a)) := by
  unfold kontQ putE
  cases pureOp ow o <;> simp
def kontE (E : Env) (ow : List Nat) (N : Nat) (ops : Array Oper) (Q : (Nat → AV) → Store → Prop) (an : List An) (o : Oper) (l : List Oper) (k cur : Nat) (past : List (Nat × Store)) (pend : List Pend) (f : Nat → AV) (σ : Store) (a : AV) (σ' : Store) : Prop :=
  oblB E ow (k + 1) σ' pend ∧ aput N f o.dst a fun f' => aopsE E ow N ops Q an l (k + 1) (k + 1) ((cur, σ) :: past) pend f' σ'
@[simp] theorem kontE_eq (an : List An) (o : Oper) (l : List Oper) (k cur : Nat) (past : List (Nat × Store)) (pend : List Pend) (f : Nat → AV) (σ : Store) (a : AV) (σ' : Store) : kontE E ow N ops Q an o l k cur past pend f σ a σ' =
  (oblB E ow (k + 1) σ' pend ∧ putE E ow N ops Q an l (k + 1) (k + 1) ((cur, σ) :: past) pend f σ' o.dst a) := rfl

def stuckE (E : Env) (ow : List Nat) (N : Nat) (ops : Array Oper) (Q : (Nat → AV) → Store → Prop) (an : List An) (l : List Oper) (k cur : Nat) (past : List (Nat × Store)) (pend : List Pend) (f : Nat → AV) (σ : Store) : Prop := aopsE E ow N ops Q an l k cur past pend f σ
@[simp] theorem aopsE_nil (an : List An) (k cur : Nat) (past : List (Nat × Store)) (pend : List Pend) (f : Nat → AV) (σ : Store) : aopsE E ow N ops Q an [] k cur past pend f σ = Q f σ := by cases an <;> (try rename_i a b; cases a) <;> rfl
theorem aopsE_q (ps : List Nat) (an : List An) (o : Oper) (l : List Oper) (k cur : Nat) (past : List (Nat × Store)) (pend : List Pend) (f : Nat → AV) (σ : Store) :
    aopsE E ow N ops Q (.q ps :: an) (o :: l) k cur past pend f σ = (if aGuard ops f o = some true then opR E ow o f σ (kontQ E ow N ops Q ps an o l k cur past pend f σ) else if aGuard ops f o = some false then putE E ow N ops Q an l (k + 1) cur past pend f σ o.dst (.tup []) else stuckE E ow N ops Q (.q ps :: an) (o :: l) k cur past pend f σ) := by
  split
  · rename_i h; rw [aopsE, h]; simp only [true_implies, Bool.true_eq_false, false_implies, and_true]; rfl
  · split
    · rename_i h; rw [aopsE, h]; simp only [true_implies, Bool.false_eq_true, false_implies, true_and]; rfl
    · rfl
theorem aopsE_e (an : List An) (o : Oper) (l : List Oper) (k cur : Nat) (past : List (Nat × Store)) (pend : List Pend) (f : Nat → AV) (σ : Store) :
    aopsE E ow N ops Q (.e :: an) (o :: l) k cur past pend f σ = (if aGuard ops f o = some true then opD E ow o f σ (kontE E ow N ops Q an o l k cur past pend f σ) else if aGuard ops f o = some false then kontE E ow N ops Q an o l k cur past pend f σ (.tup []) σ else stuckE E ow N ops Q (.e :: an) (o :: l) k cur past pend f σ) := by
  split
  · rename_i h; rw [aopsE, h]; simp only [true_implies, Bool.true_eq_false, false_implies, and_true]; rfl
  · split
    · rename_i h; rw [aopsE, h]; simp only [true_implies, Bool.false_eq_true, false_implies, true_and]; rfl
    · rfl

def callD (E : Env) (k : FuncId) (args : List AV) (σ : Store) (K : AV → Store → Prop) : Prop := ∃ a σ1, ACalls E k args σ (fun r σ' => r = a ∧ σ' = σ1) ∧ K a σ1
theorem callD_of {k : FuncId} {args : List AV} {σ σ1 : Store} {K : AV → Store → Prop} {a : AV} (h : ACalls E k args σ fun r σ' => r = a ∧ σ' = σ1) (hk : K a σ1) : callD E k args σ K := ⟨a, σ1, h, hk⟩
@[simp] theorem opD_eq (o : Oper) (f : Nat → AV) (σ : Store) (K : AV → Store → Prop) : opD E ow o f σ K = (match o.op with
  | .call c => (match c.callee with
    | .value g => (match aeval E.G f g with
      | .fn (.func k) first cap => if callable E.P k = true then callD E k (first ++ c.args.toList.map (fun x => argV ow k (aeval E.G f x)) ++ cap) σ K else ∃ a σ1, AExt E k (first ++ c.args.toList.map (aeval E.G f) ++ cap) σ (fun a' σ' => a' = a ∧ σ' = σ1) ∧ K a σ1
      | .fn (.yield b) [] [] => ∃ a σ1, AYield E b (c.args.toList.map fun x => frz (aeval E.G f x)) σ (fun a' σ' => a' = a ∧ σ' = σ1) ∧ K a σ1
      | _ => False)
    | .invoke r m => (match aeval E.G f r with
      | .ifc t v => (match methodOf E.P t m with
        | some k => callable E.P k = true ∧ callD E k (v :: c.args.toList.map (fun x => argV ow k (aeval E.G f x))) σ K
        | none => False)
      | _ => False)
    | _ => opK E ow o f σ K)
  | .next .. => ∃ a σ1, opK E ow o f σ (fun a' σ' => a' = a ∧ σ' = σ1) ∧ K a σ1
  | .panic .. => ∃ a σ1, opK E ow o f σ (fun a' σ' => a' = a ∧ σ' = σ1) ∧ K a σ1
  | .binOp op t x y _ => if isNil y = true then ∃ a, (aNilEq E op t (aeval E.G f x).rd fun a' => a' = a) ∧ K a σ else opK E ow o f σ K
  | _ => opK E ow o f σ K) := by
  apply propext
  obtain ⟨dst, op, ty, pos, after, guard⟩ := o
  unfold opD
  cases op <;> try first | (simp only [byVal, Bool.false_eq_true, if_false]; done) | (simp only [byVal, if_true]; done)
  case binOp op t x y yt =>
    by_cases hn : isNil y = true
    rotate_left
    · refine Iff.trans (iff_of_eq (if_neg (show ¬ byVal ⟨dst, .binOp op t x y yt, ty, pos, after, guard⟩ = true from hn))) (Iff.trans ?_ (iff_of_eq (if_neg hn)).symm)
      exact Iff.rfl
    · refine Iff.trans (iff_of_eq (if_pos (show byVal ⟨dst, .binOp op t x y yt, ty, pos, after, guard⟩ = true from hn))) (Iff.trans ?_ (iff_of_eq (if_pos hn)).symm)
      simp only [opK, if_pos hn]
      constructor
      · rintro ⟨a, σ1, h1, h2⟩
        have hs : σ = σ1 ∧ aNilEq E op t (aeval E.G f x).rd fun a' => a' = a := by
          unfold aNilEq at *
          split at h1 <;> first | exact h1.elim | skip
          all_goals split at h1 <;> first | exact h1.elim | (exact ⟨h1.2, h1.1⟩) | (exact ⟨(h1 true).2, fun b => (h1 b).1⟩)
        obtain ⟨rfl, h3⟩ := hs
        exact ⟨a, h3, h2⟩
      · rintro ⟨a, h1, h2⟩; exact ⟨a, σ, by simpa using h1, h2⟩
  rename_i c
  obtain ⟨callee, args, argTypes⟩ := c
  cases callee <;> try (simp only [byVal, Bool.false_eq_true, if_false]; done)
  · rename_i g
    simp only [byVal, if_true, opK, aCall]
    cases aeval E.G f g <;> try (simp; done)
    rename_i fn first cap
    cases fn <;> first | (simp; done) | skip
    · rename_i k
      simp only [callD]
      split <;> exact Iff.rfl
    · cases first <;> cases cap <;> first | exact Iff.rfl | (simp; done)
  · rename_i r m
    simp only [byVal, if_true, opK, aCall]
    cases aeval E.G f r <;> try (simp; done)
    rename_i t v
    simp only
    cases methodOf E.P t m with
    | none => simp
    | some k =>
      simp only [callD]
      constructor
      · rintro ⟨a, σ1, ⟨h1, h2⟩, h3⟩; exact ⟨h1, a, σ1, h2, h3⟩
      · rintro ⟨h1, a, σ1, h2, h3⟩; exact ⟨a, σ1, ⟨h1, h2⟩, h3⟩
end
end Go.AW
end

section
set_option linter.unusedVariables false
set_option linter.unusedSimpArgs false
set_option linter.unnecessarySimpa false
namespace Go.AW
open Go

theorem R.recell {E : Env} {Γ Γ2 : Ctx} {σ σ2 : Store} {w : World} (hr : R E Γ σ w) (hr2 : R E Γ2 σ2 w) {p : Nat} {T : TypeId} {g : Nat} {es es' : List AV} (hp : σ.get p = some (.arr T g es)) (hp2 : σ2.get p = some (.arr T g es)) (hΓ : Γ2.get p = Γ.get p)
    (hl : es'.length = es.length) (hc : ∀ (k : Nat) (e e' : AV), es[k]? = some e → es'[k]? = some e' → e'.cells.length = e.cells.length)
    (hv : ∀ (k : Nat) (e e' : AV) (j : Nat) (x y : AV) (u : Value), es[k]? = some e → es'[k]? = some e' → e.cells[j]? = some x → e'.cells[j]? = some y → VR Γ w x u → VR Γ2 w y u) : R E Γ2 (σ2.set p (.arr T g es')) w := by
  refine ⟨hr2.next, fun i => ?_, fun i hi => ?_, hr2.inj, fun i o l ho hil => ?_, hr2.glob, hr2.gbel, hr2.base, fun i o l ho hil => ?_⟩
  · rw [hr2.dom i]
    show _ = (if i = p then some _ else σ2.get i).isSome
    split
    · rename_i e; subst e; rw [hp2]; rfl
    · rfl
  · show (if i = p then some _ else σ2.get i) = none
    split
    · rename_i e; subst e
      have := hr2.bnd i hi
      rw [hp2] at this; cases this
    · exact hr2.bnd i hi
  · have ho : (if i = p then some (AObj.arr T g es') else σ2.get i) = some o := ho
    by_cases e : i = p
    · subst e
      rw [if_pos rfl] at ho
      obtain rfl := Option.some.inj ho
      have hl1 : Γ.get i = some l := by rw [← hΓ]; exact hil
      have h1 := hr.objs i _ l hp hl1
      simp only [ObjRel] at h1 ⊢
      obtain ⟨a1, a2, a3, a4, a5, a6⟩ := h1
      refine ⟨a1, a2, fun e' he' => ?_, by omega, a5, ?_⟩
      · obtain ⟨k, hk⟩ := List.getElem?_of_mem he'
        have hkl := (List.getElem?_eq_some_iff.1 hk).1
        have hke : es[k]? = some es[k] := List.getElem?_eq_getElem (by omega)
        rw [hc k _ _ hke hk]; exact a3 _ (List.getElem_mem _)
      · cases hb : l.blk with
        | none =>
          simp only [hb] at a6 ⊢
          refine ⟨?_, a6.2⟩
          have := a6.1; subst this
          simpa using hl
        | some b =>
          simp only [hb] at a6 ⊢
          obtain ⟨xs, frz, q1, q2, q3, q4⟩ := a6
          refine ⟨xs, frz, q1, q2, q3, fun k e' j y hk hj => ?_⟩
          have hkl := (List.getElem?_eq_some_iff.1 hk).1
          have hke : es[k]? = some es[k] := List.getElem?_eq_getElem (by omega)
          have hcl := hc k _ _ hke hk
          have hjl := (List.getElem?_eq_some_iff.1 hj).1
          have hjx : (es[k]).cells[j]? = some ((es[k]).cells[j]'(by omega)) := List.getElem?_eq_getElem (by omega)
          obtain ⟨u, u1, u2, u3⟩ := q4 k _ j _ hke hjx
          exact ⟨u, u1, u2, hv k _ _ j _ _ u hke hk hjx hj u3⟩
    · rw [if_neg e] at ho
      exact hr2.objs i o l ho hil
  · have ho : (if i = p then some (AObj.arr T g es') else σ2.get i) = some o := ho
    by_cases e : i = p
    · subst e
      rw [if_pos rfl] at ho
      obtain rfl := Option.some.inj ho
      exact (hr2.lims i _ l hp2 hil).trans rfl
    · rw [if_neg e] at ho
      exact hr2.lims i o l ho hil

section
variable {E : Env} {n N : Nat} {f : Nat → AV} {σ : Store} {Q : AExit → (Nat → AV) → Store → Prop}

/-- A nil slice in a cell of an object of the store, taken into the store. -/
theorem AW.adoptCell {c : Code} {p : Nat} {T : TypeId} {g : Nat} {es es' : List AV} (T' : TypeId) (hp : σ.get p = some (.arr T g es)) (hl : es'.length = es.length) (hc : ∀ (k : Nat) (e e' : AV), es[k]? = some e → es'[k]? = some e' → e'.cells.length = e.cells.length)
    (hv : ∀ (k : Nat) (e e' : AV) (j : Nat) (x y : AV), es[k]? = some e → es'[k]? = some e' → e.cells[j]? = some x → e'.cells[j]? = some y → y = x ∨ (x = .nl ∧ y = .rs σ.next 0 0 0))
    (h : AW E n N c f ((σ.alloc (.arr T' 0 [])).set p (.arr T g es')) Q) : AW E n N c f σ Q := by
  intro rd ds0 Γ w a hrd hn hr hT hd
  have hg : w.grownBy w none := ⟨rfl, rfl, rfl, Nat.le_refl _, fun _ _ _ => rfl⟩
  obtain ⟨hx, hR⟩ := hr.new (o' := .arr T' 0 []) (l' := ⟨none, tsz E.P T', 0, 0, none⟩) hg (.inl rfl) rfl (by
    intro hx
    exact ⟨rfl, rfl, by simp, by simp, Nat.zero_le _, rfl, rfl⟩)
  have hpn : p ≠ σ.next := fun e => by
    have := hr.bnd p (by omega)
    rw [hp] at this; cases this
  have hR2 := hr.recell hR (es' := es') hp (by simp [hpn, hp]) (by simp [Ctx.alloc, hr.next, hpn]) hl hc (by
    intro k e e' j x y u h1 h2 h3 h4 h5
    rcases hv k e e' j x y h1 h2 h3 h4 with rfl | ⟨rfl, rfl⟩
    · exact h5.ext hx
    · cases h5 with
      | nl ad =>
        refine .rs σ.next 0 0 0 ad 0 (by simp [Ctx.alloc, hr.next]) (Nat.le_refl _) fun l hl => ?_
        simp [Ctx.alloc, hr.next] at hl
        subst hl
        exact ⟨Nat.zero_le _, fun _ => ⟨rfl, rfl, rfl⟩⟩)
  have hT' : TR N (Γ.alloc ⟨none, tsz E.P T', 0, 0, none⟩) w f a.tmps := hT.ext hx
  exact wpIn_mono (h rd ds0 (Γ.alloc ⟨none, tsz E.P T', 0, 0, none⟩) w a hrd (Nat.le_trans hn hx.le') hR2 hT' hd) fun e a w' hp => Post.trans (hx.mono hn) hp

/-- Some objects are dropped from the store; an object that stays, and the variables, are written down otherwise. -/
theorem AW.sealCell {c : Code} (f2 : Nat → AV) (σ2 : Store) {p : Nat} {T : TypeId} {g : Nat} {es es' : List AV} (hsub : Store.sub σ2 σ) (hp : σ2.get p = some (.arr T g es)) (hl : es'.length = es.length)
    (hc : ∀ (k : Nat) (e e' : AV), es[k]? = some e → es'[k]? = some e' → e'.cells.length = e.cells.length)
    (hv : ∀ (k : Nat) (e e' : AV) (j : Nat) (x y : AV), es[k]? = some e → es'[k]? = some e' → e.cells[j]? = some x → e'.cells[j]? = some y → SR σ σ2 x y)
    (hf : ∀ t, t < N → SR σ σ2 (f t) (f2 t)) (hN : ∀ t, N ≤ t → f2 t = .junk)
    (h : AW E n N c f2 (σ2.set p (.arr T g es')) Q) : AW E n N c f σ Q := by
  intro rd ds0 Γ w a hrd hn hr hT hd
  have hR := hr.only hsub
  have hx : ExtN n Γ w (Γ.only σ2) w := Ctx.only_ext Γ σ2 w hn
  have hp1 := hsub.2 p _ hp
  have hR2 := hr.recell hR (es' := es') hp1 hp (by
    unfold Ctx.only
    simp [hp]) hl hc (fun k e e' j x y u h1 h2 h3 h4 h5 => h5.sr hr (hv k e e' j x y h1 h2 h3 h4))
  have hT2 : TR N (Γ.only σ2) w f2 a.tmps := ⟨hT.size, fun t ht => (hT.rel t ht).sr hr (hf t ht), hN⟩
  exact wpIn_mono (h rd ds0 (Γ.only σ2) w a hrd hx.le' hR2 hT2 (hd.ext hr hx)) fun e a w' hp => Post.trans hx hp
end
end Go.AW
end

section
set_option linter.unusedVariables false
set_option linter.unusedSimpArgs false
set_option linter.unnecessarySimpa false
namespace Go.AW
open Go

/-- Each operation reads only what is kept; behind it these are kept. -/
def lvOk (fin : List Nat) (ops : Array Oper) : List Nat → List (List Nat) → List Oper → Bool
  | S, _, [] => fin.all S.contains
  | S, lv :: lvs, o :: l => (o.looksAt ops).all S.contains && lv.all (fun t => o.dst == some t || S.contains t) && lvOk fin ops lv lvs l
  | _, [], _ :: _ => false

theorem fr_pick_mem {l : List Nat} {f : Nat → AV} {t : Nat} (h : t ∈ l) : fr (pick l f) t = f t := by
  induction l with
  | nil => cases h
  | cons s l ih =>
    rw [pick_cons]
    unfold fr
    by_cases e : t = s
    · subst e; simp
    · simp only [e, if_false]
      rcases List.mem_cons.1 h with h | h
      · exact absurd h e
      · exact ih h

section
variable {E : Env} {ow : List Nat} {N : Nat} {ops : Array Oper} {σ : Store} {Q : (Nat → AV) → Prop}

def aopsRP (E : Env) (ow : List Nat) (N : Nat) (ops : Array Oper) (σ : Store) (Q : (Nat → AV) → Prop) : List (List Nat) → List Oper → (Nat → AV) → Prop
  | _, [], f => Q f
  | lv :: lvs, o :: l, f => (match aGuard ops f o with
    | some g => (g = true → opR E ow o f σ fun a => aput N f o.dst a fun f' => aopsRP E ow N ops σ Q lvs l (fr (pick lv f'))) ∧ (g = false → aput N f o.dst (.tup []) fun f' => aopsRP E ow N ops σ Q lvs l (fr (pick lv f')))
    | none => False)
  | [], _ :: _, _ => False

theorem aopsRP_ok {fin : List Nat} (hQ : ∀ f g : Nat → AV, (∀ t ∈ fin, f t = g t) → Q f → Q g) : ∀ (l : List Oper) (lvs : List (List Nat)) (S : List Nat) (f g : Nat → AV), lvOk fin ops S lvs l = true → (∀ t ∈ S, f t = g t) → aopsRP E ow N ops σ Q lvs l f → aopsQ E ow N ops σ Q l g
  | [], lvs, S, f, g, hB, hfg, h => by
    have hB : fin.all S.contains = true := by cases lvs <;> exact hB
    have h : Q f := by cases lvs <;> exact h
    exact hQ f g (fun t ht => hfg t (by simpa using List.all_eq_true.1 hB t ht)) h
  | o :: l, [], S, f, g, hB, hfg, h => h.elim
  | o :: l, lv :: lvs, S, f, g, hB, hfg, h => by
    simp only [lvOk, Bool.and_eq_true] at hB
    obtain ⟨⟨h1, h2⟩, h3⟩ := hB
    have hlook : ∀ t ∈ o.looksAt ops, f t = g t := fun t ht => hfg t (by simpa using List.all_eq_true.1 h1 t ht)
    have hnext : ∀ a : AV, ∀ t ∈ lv, fr (pick lv (fput f o.dst a)) t = fput g o.dst a t := fun a t ht => by
      rw [fr_pick_mem ht]
      have := List.all_eq_true.1 h2 t ht
      simp only [Bool.or_eq_true, beq_iff_eq] at this
      by_cases hd : o.dst = some t
      · rw [hd]; simp [fput, upd]
      · rw [fput_other hd, fput_other hd]
        exact hfg t (by simpa using this.resolve_left hd)
    unfold aopsRP at h
    unfold aopsQ
    rw [← aGuard_looks hlook]
    cases hg : aGuard ops f o with
    | none => rw [hg] at h; exact h.elim
    | some b =>
      rw [hg] at h
      refine ⟨fun hb => ?_, fun hb => ?_⟩
      · obtain ⟨a, k1, k2⟩ := opR_ok (h.1 hb)
        obtain ⟨k3, k4⟩ := aput_iff.1 k2
        rw [opK_looks hlook] at k1
        exact ⟨a, k1, aput_iff.2 ⟨k3, aopsRP_ok hQ l lvs lv _ _ h3 (hnext a) k4⟩⟩
      · obtain ⟨k3, k4⟩ := aput_iff.1 (h.2 hb)
        exact aput_iff.2 ⟨k3, aopsRP_ok hQ l lvs lv _ _ h3 (hnext _) k4⟩

/-- One operation at a time: it comes up. -/
theorem rp_go {lv : List Nat} {lvs : List (List Nat)} {o : Oper} {l : List Oper} {f : Nat → AV} (hg : aGuard ops f o = some true) (d : Tmp) (hd : o.dst = some d) (hN : d < N)
    (h : ∀ K : AV → Prop, (∀ (a : AV) (L : List (Nat × AV)), pick lv (upd f d a) = L → aopsRP E ow N ops σ Q lvs l (fr L) → K a) → opR E ow o f σ K) : aopsRP E ow N ops σ Q (lv :: lvs) (o :: l) f := by
  unfold aopsRP
  rw [hg]
  refine ⟨fun _ => ?_, fun e => nomatch e⟩
  rw [hd]
  exact h _ fun a L e hL => ⟨hN, by subst e; exact hL⟩

/-- .. or it does not. -/
theorem rp_no {lv : List Nat} {lvs : List (List Nat)} {o : Oper} {l : List Oper} {f : Nat → AV} (hg : aGuard ops f o = some false) (d : Tmp) (hd : o.dst = some d) (hN : d < N) (L : List (Nat × AV)) (hL : pick lv (upd f d (.tup [])) = L)
    (h : aopsRP E ow N ops σ Q lvs l (fr L)) : aopsRP E ow N ops σ Q (lv :: lvs) (o :: l) f := by
  unfold aopsRP
  rw [hg]
  refine ⟨fun e => (nomatch e), fun _ => ?_⟩
  rw [hd]
  subst hL
  exact ⟨hN, h⟩

theorem rp_end {lvs : List (List Nat)} {f : Nat → AV} (h : Q f) : aopsRP E ow N ops σ Q lvs [] f := by cases lvs <;> exact h

def kontP (E : Env) (ow : List Nat) (N : Nat) (ops : Array Oper) (σ : Store) (Q : (Nat → AV) → Prop) (lv : List Nat) (lvs : List (List Nat)) (l : List Oper) (d : Option Tmp) (f : Nat → AV) (a : AV) : Prop := aput N f d a fun f' => aopsRP E ow N ops σ Q lvs l (fr (pick lv f'))
@[simp] theorem kontP_some (lv : List Nat) (lvs : List (List Nat)) (l : List Oper) (d : Tmp) (f : Nat → AV) (a : AV) : kontP E ow N ops σ Q lv lvs l (some d) f a = (d < N ∧ aopsRP E ow N ops σ Q lvs l (fr (pick lv (upd f d a)))) := rfl
@[simp] theorem kontP_none (lv : List Nat) (lvs : List (List Nat)) (l : List Oper) (f : Nat → AV) (a : AV) : kontP E ow N ops σ Q lv lvs l none f a = aopsRP E ow N ops σ Q lvs l (fr (pick lv f)) := rfl
def stuckP (E : Env) (ow : List Nat) (N : Nat) (ops : Array Oper) (σ : Store) (Q : (Nat → AV) → Prop) (lvs : List (List Nat)) (l : List Oper) (f : Nat → AV) : Prop := aopsRP E ow N ops σ Q lvs l f
@[simp] theorem aopsRP_nil (lvs : List (List Nat)) (f : Nat → AV) : aopsRP E ow N ops σ Q lvs [] f = Q f := by cases lvs <;> rfl
@[simp] theorem aopsRP_cons (lv : List Nat) (lvs : List (List Nat)) (o : Oper) (l : List Oper) (f : Nat → AV) :
    aopsRP E ow N ops σ Q (lv :: lvs) (o :: l) f = if aGuard ops f o = some true then opR E ow o f σ (kontP E ow N ops σ Q lv lvs l o.dst f) else if aGuard ops f o = some false then kontP E ow N ops σ Q lv lvs l o.dst f (.tup []) else stuckP E ow N ops σ Q (lv :: lvs) (o :: l) f := by
  split
  · rename_i h; rw [aopsRP, h]; simp only [true_implies, Bool.true_eq_false, false_implies, and_true]; rfl
  · split
    · rename_i h; rw [aopsRP, h]; simp only [true_implies, Bool.false_eq_true, false_implies, true_and]; rfl
    · rfl
end

/-! ### The plain walk, one operation at a time -/
section
variable {E : Env} {ow : List Nat} {N : Nat} {ops : Array Oper} {σ : Store} {K : (Nat → AV) → Store → Prop} {o : Oper} {l : List Oper}
theorem upd_fr (L : List (Nat × AV)) (d : Nat) (a : AV) : upd (fr L) d a = fr ((d, a) :: L) := by funext t; rfl
theorem ops_go {L : List (Nat × AV)} (hg : aGuard ops (fr L) o = some true) (d : Tmp) (hd : o.dst = some d) (hN : d < N)
    (h : ∀ K' : AV → Store → Prop, (∀ a σ', aops E ow N ops l (fr ((d, a) :: L)) σ' K → K' a σ') → opK E ow o (fr L) σ K') : aops E ow N ops (o :: l) (fr L) σ K := by
  rw [aops, hg]
  refine ⟨fun _ => ?_, fun e => nomatch e⟩
  rw [hd]
  exact h _ fun a σ' ha => ⟨hN, by rw [upd_fr]; exact ha⟩
theorem ops_go0 {L : List (Nat × AV)} (hg : aGuard ops (fr L) o = some true) (hd : o.dst = none)
    (h : ∀ K' : AV → Store → Prop, (∀ a σ', aops E ow N ops l (fr L) σ' K → K' a σ') → opK E ow o (fr L) σ K') : aops E ow N ops (o :: l) (fr L) σ K := by
  rw [aops, hg]
  refine ⟨fun _ => ?_, fun e => nomatch e⟩
  rw [hd]
  exact h _ fun a σ' ha => ha
theorem ops_no {L : List (Nat × AV)} (hg : aGuard ops (fr L) o = some false) (d : Tmp) (hd : o.dst = some d) (hN : d < N) (h : aops E ow N ops l (fr ((d, .tup []) :: L)) σ K) : aops E ow N ops (o :: l) (fr L) σ K := by
  rw [aops, hg]
  refine ⟨fun e => (nomatch e), fun _ => ?_⟩
  rw [hd]
  exact ⟨hN, by rw [upd_fr]; exact h⟩
theorem ops_no0 {L : List (Nat × AV)} (hg : aGuard ops (fr L) o = some false) (hd : o.dst = none) (h : aops E ow N ops l (fr L) σ K) : aops E ow N ops (o :: l) (fr L) σ K := by
  rw [aops, hg]
  refine ⟨fun e => (nomatch e), fun _ => ?_⟩
  rw [hd]
  exact h
theorem ops_end {f : Nat → AV} (h : K f σ) : aops E ow N ops [] f σ K := h
end

section
variable {E : Env} {n N : Nat} {f : Nat → AV} {σ : Store} {Q : AExit → (Nat → AV) → Store → Prop}
theorem pick_agree {l : List Nat} {f g : Nat → AV} (h : ∀ t ∈ l, f t = g t) : pick l f = pick l g := by
  unfold pick
  exact List.map_congr_left fun t ht => by rw [h t ht]

theorem AW.stepRP (ow l : List Nat) (S : List Nat) (lvs : List (List Nat)) {id : Nat} {ops : List Oper} {d : Code} (hm : E.P.follows .mixedOrders = true) (hB : Region.lexFrom .any ops.toArray ops.length 0 (Array.replicate ops.length false) = true)
    (hL : lvOk l ops.toArray S lvs ops = true)
    (h : ∀ K : List (Nat × AV) → Store → Prop, (∀ L σ, AW E n N d (fr L) σ Q → K L σ) → aopsRP E ow N ops.toArray σ (fun f => K (pick l f) σ) lvs ops (fr (pick S f))) :
    AW E n N (.seq (.region id ops.toArray true) d) f σ Q :=
  AW.seqL l fun K hK => AW.draw ow hm hB (aopsRP_ok (fin := l) (fun f g hfg hq => by show K (pick l g) σ; rw [← pick_agree hfg]; exact hq) ops lvs S _ _ hL (fun t ht => fr_pick_mem ht) (h K hK))
end
end Go.AW
end

section
set_option linter.unusedVariables false
set_option linter.unusedSimpArgs false
set_option linter.unnecessarySimpa false
namespace Go.AW
open Go

/-- Objects are dropped from the store ahead of a call; the arguments are written down otherwise. -/
theorem ACalls.lend {E : Env} {f : FuncId} {args args' : List AV} {σ σ2 : Store} {Q : AV → Store → Prop} (hsub : Store.sub σ2 σ) (hlen : args.length = args'.length) (hargs : ∀ (j : Nat) (a b : AV), args[j]? = some a → args'[j]? = some b → SR σ σ2 a b)
    (h : ACalls E f args' σ2 Q) : ACalls E f args σ Q := by
  intro Γ w vs hr hv
  have hR := hr.only hsub
  have hx : ExtN Γ.next Γ w (Γ.only σ2) w := Ctx.only_ext Γ σ2 w (Nat.le_refl _)
  refine (h (Γ.only σ2) w vs hR ⟨by rw [← hlen]; exact hv.1, fun j b v hb hvj => ?_⟩).mono ?_
  · have hj := (List.getElem?_eq_some_iff.1 hb).1
    have ha : args[j]? = some (args[j]'(by omega)) := List.getElem?_eq_getElem _
    exact (hv.2 j _ v ha hvj).sr hr (hargs j _ b ha hb)
  · rintro e w' (⟨v, rfl, Γ', a, σ', h1, h2, h3, h4⟩ | ⟨v, rfl, Γ', a, σ', h1, h2, h3, h4⟩)
    · exact .inl ⟨v, rfl, Γ', a, σ', hx.trans h1, h2, h3, h4⟩
    · exact .inr ⟨v, rfl, Γ', a, σ', hx.trans h1, h2, h3, h4⟩

theorem Fin.c {σ s1 : Store} (hσ : StoreBel σ) (hle : σ.next ≤ s1.next) (hsame : ∀ j, j < σ.next → s1.get j = σ.get j) {v : Value} {Q : AV → Store → Prop} (h : Q (.c v) σ) : Fin σ.next s1 (.c v) Q :=
  Fin.back hσ hle (fun i o ho => by rw [hsame i (hσ i o ho).1]; exact ho) (.refl _) (.c v) h

section
variable {E : Env} {n N : Nat} {f : Nat → AV} {σ : Store} {Q : AExit → (Nat → AV) → Store → Prop}
/-- What the store holds lies below its end. -/
theorem AW.bounded {c : Code} (h : (∀ i o, σ.get i = some o → i < σ.next) → AW E n N c f σ Q) : AW E n N c f σ Q :=
  fun rd ds0 Γ w a hrd hn hr ht hd => h (fun i o ho => by obtain ⟨_, _, _, hlt⟩ := hr.loc ho; exact hlt) rd ds0 Γ w a hrd hn hr ht hd
end

/-- The store as it was below n. -/
def Store.below (σ : Store) (n : Nat) : Store := ⟨fun k => if k < n then σ.get k else none, σ.next⟩
@[simp] theorem below_get (σ : Store) (n k : Nat) : (Store.below σ n).get k = if k < n then σ.get k else none := rfl
@[simp] theorem below_next (σ : Store) (n : Nat) : (Store.below σ n).next = σ.next := rfl
theorem below_sub (σ : Store) (n : Nat) : Store.sub (Store.below σ n) σ := ⟨rfl, fun i o h => by
  simp only [below_get] at h
  split at h
  · exact h
  · cases h⟩
end Go.AW
end

section
set_option linter.unusedVariables false
set_option linter.unusedSimpArgs false
set_option linter.unnecessarySimpa false
namespace Go.AW
open Go

/-- The operation, its numbers turned by p, with edges more. -/
def reidx (p : List Nat) (ex : List Nat) (o : Oper) : Oper :=
  { o with after := ((o.after.toList.map fun e => (⟨p.getD e.on 0, e.ground⟩ : Edge)) ++ (ex.map fun k => (⟨p.getD k 0, .guard⟩ : Edge))).toArray, guard := o.guard.map fun g => (p.getD g.1 0, g.2) }
/-- A number in the list without f. -/
def dn (f i : Nat) : Nat := if i < f then i else i - 1
def up (t i : Nat) : Nat := if i < t then i else i + 1
/-- Where f comes to stand: behind the first j of cs, ahead of the others. -/
def placeOf (n f : Nat) (cs : List Nat) (j : Nat) : Nat :=
  max (match j with | 0 => 0 | k + 1 => dn f (cs.getD k 0) + 1) (min f (match cs[j]? with | some c => dn f c | none => n - 1))
def pOf (f t i : Nat) : Nat := if i = f then t else up t (dn f i)
def qOf (f t k : Nat) : Nat := if k = t then f else up f (dn t k)
def exOf (f : Nat) (cs : List Nat) (j i : Nat) : List Nat := if i = f then cs.take j else if (cs.drop j).contains i then [f] else []
def altOf (l : List Oper) (f : Nat) (cs : List Nat) (j : Nat) : List Oper :=
  let t := placeOf l.length f cs j
  (List.range l.length).filterMap fun k => (l[qOf f t k]?).map (reidx ((List.range l.length).map (pOf f t)) (exOf f cs j (qOf f t k)))
def floatOk (l : List Oper) (f : Nat) (cs : List Nat) : Bool :=
  decide (f < l.length) && cs.all (fun c => decide (c < l.length ∧ c ≠ f)) &&
  (List.range cs.length).all (fun k => match cs[k]?, cs[k + 1]? with
    | some a, some b => (match l[b]? with | some o => (onlyOn o).contains a | none => false)
    | _, _ => true) &&
  l.all (fun o => (match o.guard with | some g => decide (g.1 < l.length) | none => true) && (onlyOn o).all fun k => decide (k < l.length)) &&
  (List.range (cs.length + 1)).all (fun j => decide (placeOf l.length f cs j < l.length)) &&
  (List.range cs.length).all (fun k => (List.range k).all fun i => cs[i]? != cs[k]?)

structure Var (l l' : List Oper) (p : Nat → Nat) (ex : Nat → List Nat) : Prop where
  len : l'.length = l.length
  lt : ∀ i, i < l.length → p i < l.length
  inj : ∀ i j, i < l.length → j < l.length → p i = p j → i = j
  sur : ∀ k, k < l.length → ∃ i, i < l.length ∧ p i = k
  op : ∀ i o, l[i]? = some o → ∃ o', l'[p i]? = some o' ∧ o'.op = o.op ∧ o'.dst = o.dst ∧ o'.type = o.type ∧ o'.guard = o.guard.map (fun g => (p g.1, g.2)) ∧ (∀ g, o.guard = some g → g.1 < l.length) ∧ (∀ k', k' ∈ onlyOn o' ↔ (∃ k ∈ onlyOn o, k' = p k) ∨ ∃ k ∈ ex i, k' = p k) ∧ (∀ k ∈ onlyOn o, k < l.length)

theorem dn_up {t i : Nat} : dn t (up t i) = i := by unfold dn up; grind
theorem up_dn {t i : Nat} (h : i ≠ t) : up t (dn t i) = i := by unfold dn up; grind
theorem qp {f t i : Nat} : qOf f t (pOf f t i) = i := by
  unfold qOf pOf
  by_cases h : i = f
  · simp [h]
  · rw [if_neg h, if_neg (by unfold up dn; grind), dn_up, up_dn h]
theorem pq {f t k : Nat} : pOf f t (qOf f t k) = k := qp (f := t) (t := f) (i := k)
theorem pOf_lt {f t i n : Nat} (hf : f < n) (ht : t < n) (hi : i < n) : pOf f t i < n := by
  unfold pOf up dn
  grind
theorem getD_p {n f t k : Nat} (h : k < n) : ((List.range n).map (pOf f t)).getD k 0 = pOf f t k := by
  simp [List.getD, h]
theorem filterMap_some {α : Type} (g : Nat → Option α) : ∀ (n : Nat), (∀ k, k < n → (g k).isSome = true) → ((List.range n).filterMap g).length = n ∧ ∀ k, k < n → ((List.range n).filterMap g)[k]? = g k
  | 0, _ => ⟨rfl, fun k h => by omega⟩
  | n + 1, h => by
    obtain ⟨h1, h2⟩ := filterMap_some g n fun k hk => h k (by omega)
    obtain ⟨a, ha⟩ := Option.isSome_iff_exists.1 (h n (by omega))
    rw [List.range_succ, List.filterMap_append]
    have : List.filterMap g [n] = [a] := by simp [ha]
    rw [this]
    refine ⟨by simp [h1], fun k hk => ?_⟩
    by_cases e : k < n
    · rw [List.getElem?_append_left (by omega)]; exact h2 k e
    · have : k = n := by omega
      subst this
      rw [List.getElem?_append_right (by omega), h1, ha]
      simp
theorem onlyOn_reidx (p ex : List Nat) (o : Oper) (k' : Nat) : k' ∈ onlyOn (reidx p ex o) ↔ (∃ k ∈ onlyOn o, k' = p.getD k 0) ∨ ∃ k ∈ ex, k' = p.getD k 0 := by
  simp only [onlyOn, reidx, List.mem_map, List.mem_filter, List.mem_append]
  constructor
  · rintro ⟨e, ⟨h1 | h1, h2⟩, rfl⟩
    · obtain ⟨e0, h3, rfl⟩ := h1
      exact .inl ⟨e0.on, ⟨e0, ⟨h3, by simpa [Region.binds] using h2⟩, rfl⟩, rfl⟩
    · obtain ⟨k, h3, rfl⟩ := h1
      exact .inr ⟨k, h3, rfl⟩
  · rintro (⟨k, ⟨e, ⟨h1, h2⟩, rfl⟩, rfl⟩ | ⟨k, h1, rfl⟩)
    · exact ⟨⟨p.getD e.on 0, e.ground⟩, ⟨.inl ⟨e, h1, rfl⟩, by simpa [Region.binds] using h2⟩, rfl⟩
    · exact ⟨⟨p.getD k 0, .guard⟩, ⟨.inr ⟨k, h1, rfl⟩, rfl⟩, rfl⟩
theorem float_facts {l : List Oper} {f : Nat} {cs : List Nat} (h : floatOk l f cs = true) : f < l.length ∧ (∀ c ∈ cs, c < l.length ∧ c ≠ f) ∧ (∀ k a b : Nat, cs[k]? = some a → cs[k + 1]? = some b → ∃ o, l[b]? = some o ∧ a ∈ onlyOn o) ∧
    (∀ (i : Nat) (o : Oper), l[i]? = some o → (∀ g, o.guard = some g → g.1 < l.length) ∧ ∀ k ∈ onlyOn o, k < l.length) ∧ (∀ j, j ≤ cs.length → placeOf l.length f cs j < l.length) ∧ (∀ i k a : Nat, i < k → cs[i]? = some a → cs[k]? ≠ some a) := by
  simp only [floatOk, Bool.and_eq_true, decide_eq_true_eq, List.all_eq_true, List.mem_range] at h
  obtain ⟨⟨⟨⟨⟨h1, h2⟩, h3⟩, h4⟩, h5⟩, h6⟩ := h
  refine ⟨h1, h2, fun k a b ha hb => ?_, fun i o ho => ?_, fun j hj => h5 j (by omega), fun i k a hik ha hk => ?_⟩
  · have hk := (List.getElem?_eq_some_iff.1 ha).1
    have := h3 k hk
    simp only [ha, hb] at this
    split at this
    · rename_i o ho; exact ⟨o, ho, by simpa using this⟩
    · cases this
  · have := h4 o (List.mem_of_getElem? ho)
    refine ⟨fun g hg => ?_, fun k hk => this.2 k hk⟩
    have h := this.1
    rw [hg] at h
    simpa using h
  · have hkl := (List.getElem?_eq_some_iff.1 hk).1
    have := h6 k hkl i hik
    rw [ha, hk] at this
    simp at this
theorem altOf_var {l : List Oper} {f : Nat} {cs : List Nat} (h : floatOk l f cs = true) {j : Nat} (hj : j ≤ cs.length) : Var l (altOf l f cs j) (pOf f (placeOf l.length f cs j)) (exOf f cs j) := by
  obtain ⟨h1, h2, h3, h4, h5, h6⟩ := float_facts h
  have ht := h5 j hj
  obtain ⟨t, hteq⟩ : ∃ t, t = placeOf l.length f cs j := ⟨_, rfl⟩
  rw [← hteq] at ht ⊢
  have hq : ∀ k, k < l.length → qOf f t k < l.length := fun k hk => pOf_lt (f := t) (t := f) ht h1 hk
  have hal : altOf l f cs j = (List.range l.length).filterMap fun k => (l[qOf f t k]?).map (reidx ((List.range l.length).map (pOf f t)) (exOf f cs j (qOf f t k))) := by rw [hteq]; rfl
  obtain ⟨e1, e2⟩ := filterMap_some (fun k => (l[qOf f t k]?).map (reidx ((List.range l.length).map (pOf f t)) (exOf f cs j (qOf f t k)))) l.length fun k hk => by simp [List.getElem?_eq_getElem (hq k hk)]
  rw [← hal] at e1 e2
  refine ⟨e1, fun i hi => pOf_lt h1 ht hi, fun i k hi hk e => ?_, fun k hk => ⟨qOf f t k, hq k hk, pq⟩, fun i o ho => ?_⟩
  · have := congrArg (qOf f t) e
    rwa [qp, qp] at this
  · have hi := (List.getElem?_eq_some_iff.1 ho).1
    have hp := pOf_lt (i := i) h1 ht hi
    obtain ⟨hg, hon⟩ := h4 i o ho
    refine ⟨reidx ((List.range l.length).map (pOf f t)) (exOf f cs j i) o, by rw [e2 _ hp, qp, ho]; rfl, rfl, rfl, rfl, ?_, hg, fun k' => ?_, hon⟩
    · cases hgd : o.guard with
      | none => simp [reidx, hgd]
      | some g => simp only [reidx, hgd, Option.map_some, getD_p (hg g hgd)]
    · rw [onlyOn_reidx]
      have hex : ∀ k ∈ exOf f cs j i, k < l.length := by
        intro k hk
        unfold exOf at hk
        split at hk
        · exact (h2 k (List.mem_of_mem_take hk)).1
        · split at hk
          · simp at hk; rw [hk]; exact h1
          · simp at hk
      constructor
      · rintro (⟨k, hk, rfl⟩ | ⟨k, hk, rfl⟩)
        · exact .inl ⟨k, hk, getD_p (hon k hk)⟩
        · exact .inr ⟨k, hk, getD_p (hex k hk)⟩
      · rintro (⟨k, hk, rfl⟩ | ⟨k, hk, rfl⟩)
        · exact .inl ⟨k, hk, (getD_p (hon k hk)).symm⟩
        · exact .inr ⟨k, hk, (getD_p (hex k hk)).symm⟩

section
variable {E : Env} {ow : List Nat} {N : Nat} {Q : (Nat → AV) → Store → Prop} {l l' : List Oper} {p : Nat → Nat} {ex : Nat → List Nat}
theorem opK_same {o o' : Oper} (h1 : o'.op = o.op) (h2 : o'.dst = o.dst) (h3 : o'.type = o.type) (f : Nat → AV) (σ : Store) (K : AV → Store → Prop) : opK E ow o' f σ K = opK E ow o f σ K := by
  cases o; cases o'
  simp only at h1 h2 h3
  subst h1; subst h2; subst h3
  rfl
theorem qE_var (V : Var l l' p ex) {i : Nat} (hi : i < l.length) {K K' : (Nat → AV) → Store → Prop} {f : Nat → AV} {σ : Store} (h : qE E ow N l'.toArray (p i) K' f σ) (hk : ∀ f σ, K' f σ → K f σ) : qE E ow N l.toArray i K f σ := by
  obtain ⟨o, ho⟩ : ∃ o, l[i]? = some o := ⟨l[i], List.getElem?_eq_getElem hi⟩
  obtain ⟨o', ho', e1, e2, e3, e4, e5, _⟩ := V.op i o ho
  have hg : aGuard l'.toArray f o' = aGuard l.toArray f o := by
    unfold aGuard
    rw [e4]
    cases hgd : o.guard with
    | none => rfl
    | some g =>
      obtain ⟨k, want⟩ := g
      simp only [Option.map_some]
      have hkl : k < l.length := e5 _ hgd
      obtain ⟨o2, ho2⟩ : ∃ o, l[k]? = some o := ⟨l[k], List.getElem?_eq_getElem hkl⟩
      obtain ⟨o3, ho3, _, d2, _⟩ := V.op k o2 ho2
      have q1 : (l'.toArray[p k]?).bind (·.dst) = (l.toArray[k]?).bind (·.dst) := by simp [ho2, ho3, d2]
      rw [q1]
  unfold qE at *
  have a1 : l.toArray[i]? = some o := by simpa using ho
  have a2 : l'.toArray[p i]? = some o' := by simpa using ho'
  simp only [a2, hg] at h
  simp only [a1]
  split at h
  · rename_i g hg'
    refine ⟨fun hgt => ?_, fun hgf => ?_⟩
    · obtain ⟨a, σ1, h1, h2⟩ := h.1 hgt
      rw [opK_same e1 e2 e3] at h1
      rw [e2] at h2
      exact ⟨a, σ1, h1, aput_mono (fun f' h => hk _ _ h) h2⟩
    · have h2 := h.2 hgf
      rw [e2] at h2
      exact aput_mono (fun f' h => hk _ _ h) h2
  · exact h.elim
/-- The same operations have come up. -/
def LR (l : List Oper) (p : Nat → Nat) (a a' : Array Bool) : Prop := a.size = l.length ∧ a'.size = l.length ∧ ∀ i, i < l.length → a'.getD (p i) false = a.getD i false
theorem LR.set (V : Var l l' p ex) {a a' : Array Bool} (h : LR l p a a') {i : Nat} (hi : i < l.length) : LR l p (a.setIfInBounds i true) (a'.setIfInBounds (p i) true) := by
  obtain ⟨h1, h2, h3⟩ := h
  refine ⟨by simp [h1], by simp [h2], fun k hk => ?_⟩
  have hp := V.lt i hi
  by_cases e : k = i
  · subst e
    simp [Array.getD, h1, h2, hi, hp]
  · have e' : p i ≠ p k := fun q => e (V.inj i k hi hk q).symm
    rw [getD_set_ne' e', getD_set_ne' (Ne.symm e)]
    exact h3 k hk
theorem ready_var (V : Var l l' p ex) {a a' : Array Bool} (h : LR l p a a') {i : Nat} (hi : i ∈ Region.ready .any l.toArray a) (he : ∀ k ∈ ex i, k < l.length ∧ a.getD k false = true) : i < l.length ∧ p i ∈ Region.ready .any l'.toArray a' := by
  rw [ready_iff h.1] at hi
  obtain ⟨h1, o, ho, h2⟩ := hi
  have hl := (List.getElem?_eq_some_iff.1 ho).1
  obtain ⟨o', ho', _, _, _, _, _, hon, honl⟩ := V.op i o ho
  refine ⟨hl, ?_⟩
  rw [ready_iff (by rw [h.2.1, V.len])]
  refine ⟨by rw [h.2.2 i hl]; exact h1, o', ho', fun k' hk' => ?_⟩
  rcases (hon k').1 hk' with ⟨k, hk, rfl⟩ | ⟨k, hk, rfl⟩
  · rw [h.2.2 k (honl k hk)]; exact h2 k hk
  · rw [h.2.2 k (he k hk).1]; exact (he k hk).2
theorem ready_back (V : Var l l' p ex) {a a' : Array Bool} (h : LR l p a a') (hn : Region.ready .any l.toArray a = []) : Region.ready .any l'.toArray a' = [] := by
  rw [List.eq_nil_iff_forall_not_mem]
  intro k' hk'
  rw [ready_iff (by rw [h.2.1, V.len])] at hk'
  obtain ⟨h1, o', ho', h2⟩ := hk'
  have hl' := (List.getElem?_eq_some_iff.1 ho').1
  rw [V.len] at hl'
  obtain ⟨i, hi, rfl⟩ := V.sur k' hl'
  obtain ⟨o, ho⟩ : ∃ o, l[i]? = some o := ⟨l[i], List.getElem?_eq_getElem hi⟩
  obtain ⟨o2, ho2, _, _, _, _, _, hon, honl⟩ := V.op i o ho
  rw [ho'] at ho2
  cases ho2
  have : i ∈ Region.ready .any l.toArray a := by
    rw [ready_iff h.1]
    refine ⟨by rw [← h.2.2 i hi]; exact h1, o, ho, fun k hk => ?_⟩
    rw [← h.2.2 k (honl k hk)]
    exact h2 _ ((hon _).2 (.inl ⟨k, hk, rfl⟩))
  rw [hn] at this
  cases this
theorem getD_set_self {a : Array Bool} {i : Nat} (h : i < a.size) : (a.setIfInBounds i true).getD i false = true := by simp [Array.getD, h]
/-- An order in which the operations may come up. -/
def LinP (l : List Oper) : Nat → Array Bool → List Nat → Prop
  | n, a, [] => n = 0 ∨ Region.ready .any l.toArray a = []
  | 0, _, _ :: _ => False
  | n + 1, a, i :: r => i ∈ Region.ready .any l.toArray a ∧ LinP l n (a.setIfInBounds i true) r
theorem linP_nil (n : Nat) (a : Array Bool) : LinP l n a [] ↔ (n = 0 ∨ Region.ready .any l.toArray a = []) := by cases n <;> exact Iff.rfl
theorem LinP.lt : ∀ {r : List Nat} {n : Nat} {a : Array Bool}, a.size = l.length → LinP l n a r → ∀ i ∈ r, i < l.length
  | [], n, a, _, _, i, hi => by simp at hi
  | k :: r, 0, a, _, h, _, _ => h.elim
  | k :: r, n + 1, a, hs, h, i, hi => by
    rcases List.mem_cons.1 hi with rfl | hi
    · have := h.1
      rw [ready_iff hs] at this
      obtain ⟨_, o, ho, _⟩ := this
      exact (List.getElem?_eq_some_iff.1 ho).1
    · exact LinP.lt (by simpa using hs) h.2 i hi
theorem lin_go (l : List Oper) : ∀ (n t : Nat) (a : Array Bool), LinP l n a (Region.linearise.go .any l.toArray n t a [])
  | 0, t, a => .inl rfl
  | n + 1, t, a => by
    simp only [Region.linearise.go]
    change LinP l (n + 1) a (match (Region.ready .any l.toArray a)[t % (Region.ready .any l.toArray a).length]? with
      | some i => Region.linearise.go .any l.toArray n (t / (Region.ready .any l.toArray a).length) (a.setIfInBounds i true) [i]
      | none => [].reverse)
    cases hi : (Region.ready .any l.toArray a)[t % (Region.ready .any l.toArray a).length]? with
    | none =>
      right
      cases hr : Region.ready .any l.toArray a with
      | nil => rfl
      | cons x xs =>
        rw [hr] at hi
        have hlt : t % (x :: xs).length < (x :: xs).length := Nat.mod_lt _ (by simp)
        simp at hi
        simp at hlt
        omega
    | some i =>
      simp only []
      rw [linearise_go_acc, List.reverse_singleton, List.singleton_append]
      exact ⟨List.mem_of_getElem? hi, lin_go l n _ _⟩
/-- The operations in this order. -/
def seqE (E : Env) (ow : List Nat) (N : Nat) (ops : Array Oper) (Q : (Nat → AV) → Store → Prop) : List Nat → (Nat → AV) → Store → Prop
  | [], f, σ => Q f σ
  | i :: r, f, σ => qE E ow N ops i (seqE E ow N ops Q r) f σ
theorem qE_mono {ops : Array Oper} {i : Nat} {K K' : (Nat → AV) → Store → Prop} {f : Nat → AV} {σ : Store} (h : qE E ow N ops i K f σ) (hk : ∀ f σ, K f σ → K' f σ) : qE E ow N ops i K' f σ := by
  unfold qE at *
  split
  · rename_i ho; simp only [ho] at h; exact hk _ _ h
  · rename_i o ho
    simp only [ho] at h
    split at h
    · refine ⟨fun hgt => ?_, fun hgf => aput_mono (fun f' h => hk _ _ h) (h.2 hgf)⟩
      obtain ⟨a, σ1, h1, h2⟩ := h.1 hgt
      exact ⟨a, σ1, h1, aput_mono (fun f' h => hk _ _ h) h2⟩
    · exact h.elim
theorem any_seq : ∀ (r : List Nat) (n : Nat) (a : Array Bool) (f : Nat → AV) (σ : Store), LinP l n a r → anyE E ow N .any l.toArray Q n a f σ → seqE E ow N l.toArray Q r f σ
  | [], 0, a, f, σ, h, hq => hq.2
  | [], n + 1, a, f, σ, h, hq => by
    rcases h with h | h
    · cases h
    · exact hq.1 h
  | i :: r, 0, a, f, σ, h, hq => h.elim
  | i :: r, n + 1, a, f, σ, h, hq => qE_mono (hq.2 i h.1) fun f' σ' h' => any_seq r n _ f' σ' h.2 h'
theorem seq_var (V : Var l l' p ex) : ∀ (r : List Nat) (f : Nat → AV) (σ : Store), (∀ i ∈ r, i < l.length) → seqE E ow N l'.toArray Q (r.map p) f σ → seqE E ow N l.toArray Q r f σ
  | [], f, σ, _, h => h
  | i :: r, f, σ, hr, h => qE_var V (hr i (by simp)) h fun f' σ' h' => seq_var V r f' σ' (fun i hi => hr i (by simp [hi])) h'
theorem seqE_ok {ops : Array Oper} {n : Nat} {Γ0 : Ctx} {w0 : World} {rd : Option Nat} {ds0 : Ds0} {Q' : Exit → Act → World → Prop}
    (hQ : ∀ Γ w f σ a, ExtN n Γ0 w0 Γ w → R E Γ σ w → TR N Γ w f a.tmps → Marks w ds0 a → Q f σ → Q' .normal a w)
    (hP : ∀ v w a, PanRes E n Γ0 w0 v w → Marks w ds0 a → Q' (.panic [{ v := v, recovered := false }]) a w) (hw : ∀ (i : Nat) (o : Oper), ops[i]? = some o → kpOk ds0 o.dst) :
    ∀ (r : List Nat) (f : Nat → AV) (σ : Store) (Γ : Ctx) (w : World) (a : Act), ExtN n Γ0 w0 Γ w → R E Γ σ w → TR N Γ w f a.tmps → Marks w ds0 a → seqE E ow N ops Q r f σ → wpOpsIn (wideR rd) 0 E.P ops Q' r a w
  | [], f, σ, Γ, w, a, hx, hr, ht, hd, h => hQ Γ w f σ a hx hr ht hd h
  | i :: r, f, σ, Γ, w, a, hx, hr, ht, hd, h => by
    rw [wpOpsIn_cons]
    have h1 : qE E ow N ops i (seqE E ow N ops Q r) f σ := h
    unfold wpOpIn
    unfold qE at h1
    split
    · rename_i ho
      simp only [ho] at h1
      exact seqE_ok hQ hP hw r f σ Γ w a hx hr ht hd h1
    · rename_i o ho
      simp only [ho] at h1
      split at h1
      · rename_i g hg
        cases g with
        | true =>
          obtain ⟨x, σ1, hx1, hx2⟩ := h1.1 rfl
          rw [if_pos (aGuard_ok ht hg)]
          refine Up.upon (opK_ok (ρ := a.eval) hr (fun x _ => ht.eval hr x) (fun _ => rfl) hx1) (opK_defer hx1) ?_ ?_
          · rintro v w' ⟨Γ', y, σ', k1, k2, k3, e1, e2⟩
            subst e1; subst e2
            obtain ⟨f', ht', hk, hd'⟩ := aput_ok (ht.ext k1) k3 hx2
            exact seqE_ok hQ hP hw r f' σ' Γ' w' _ (hx.trans (k1.mono hx.le')) k2 ht' ((hd.ext hr k1).put (hw _ _ ho)) hk
          · intro v w' h
            obtain ⟨Γ', h1⟩ := h.ext
            exact hP v w' a (.of_res hx h) (hd.ext hr h1)
        | false =>
          rw [if_neg (by rw [aGuard_ok ht hg]; simp)]
          obtain ⟨f', ht', hk, hd'⟩ := aput_ok ht (VR.undef_ Γ w) (h1.2 rfl)
          exact ⟨fun _ _ => trivial, seqE_ok hQ hP hw r f' σ Γ w _ hx hr ht' (hd.put (hw _ _ ho)) hk⟩
      · exact h1.elim
/-- Once the floating operation has come up, one order of the two is as good as the other. -/
theorem lin_two (V : Var l l' p ex) {f0 : Nat} (hf0 : f0 < l.length) (hex : ∀ i, i ≠ f0 → ∀ k ∈ ex i, k = f0) : ∀ (r : List Nat) (n : Nat) (a a' : Array Bool), LR l p a a' → a.getD f0 false = true → LinP l n a r → LinP l' n a' (r.map p)
  | [], n, a, a', h, hf, hl => by
    rw [linP_nil] at hl
    rw [List.map_nil, linP_nil]
    rcases hl with hl | hl
    · exact .inl hl
    · exact .inr (ready_back V h hl)
  | i :: r, 0, a, a', h, hf, hl => hl.elim
  | i :: r, n + 1, a, a', h, hf, hl => by
    have hne : i ≠ f0 := by
      rintro rfl
      have := hl.1
      rw [ready_iff h.1, hf] at this
      cases this.1
    obtain ⟨q1, q2⟩ := ready_var V h hl.1 fun k hk => by rw [hex i hne k hk]; exact ⟨hf0, hf⟩
    exact ⟨q2, lin_two V hf0 hex r n _ _ (h.set V q1) (by rw [getD_set_ne' hne]; exact hf) hl.2⟩
theorem mem_drop_get {cs : List Nat} {j c : Nat} (h : c ∈ cs.drop j) : ∃ k, j ≤ k ∧ cs[k]? = some c := by
  obtain ⟨k, hk⟩ := List.getElem?_of_mem h
  rw [List.getElem?_drop] at hk
  exact ⟨j + k, by omega, hk⟩
theorem mem_take_get {cs : List Nat} {j c : Nat} (h : c ∈ cs.take j) : ∃ k, k < j ∧ cs[k]? = some c := by
  obtain ⟨k, hk⟩ := List.getElem?_of_mem h
  rw [List.getElem?_take] at hk
  split at hk
  · exact ⟨k, by assumption, hk⟩
  · cases hk
theorem lin_alts {l : List Oper} {f0 : Nat} {cs : List Nat} (hF : floatOk l f0 cs = true) : ∀ (r : List Nat) (n j0 : Nat) (a : Array Bool) (L : Nat → Array Bool), a.getD f0 false = false → j0 ≤ cs.length → (∀ (k c : Nat), cs[k]? = some c → (a.getD c false = true ↔ k < j0)) →
    (∀ j, j ≤ cs.length → LR l (pOf f0 (placeOf l.length f0 cs j)) a (L j)) → LinP l n a r → ∃ j, j0 ≤ j ∧ j ≤ cs.length ∧ LinP (altOf l f0 cs j) n (L j) (r.map (pOf f0 (placeOf l.length f0 cs j))) := by
  obtain ⟨h1, h2, h3, h4, h5, h6⟩ := float_facts hF
  have V := fun j (hj : j ≤ cs.length) => altOf_var hF hj
  have hex : ∀ j i, i ≠ f0 → ∀ k ∈ exOf f0 cs j i, k = f0 := by
    intro j i hi k hk
    unfold exOf at hk
    rw [if_neg hi] at hk
    split at hk
    · simpa using hk
    · simp at hk
  have hf0 : ∀ j i, i = f0 → exOf f0 cs j i = cs.take j := fun j i h => by unfold exOf; rw [if_pos h]
  have hno : ∀ j i, i ≠ f0 → i ∉ cs.drop j → exOf f0 cs j i = [] := fun j i h hc => by
    unfold exOf
    rw [if_neg h, if_neg (by simpa using hc)]
  have base : ∀ (j0 : Nat) (a : Array Bool) (L : Nat → Array Bool), a.getD f0 false = false → j0 ≤ cs.length → (∀ k c, cs[k]? = some c → (a.getD c false = true ↔ k < j0)) → (∀ j, j ≤ cs.length → LR l (pOf f0 (placeOf l.length f0 cs j)) a (L j)) →
      ∀ i, i ∈ Region.ready .any l.toArray a → (i = f0 → i < l.length ∧ pOf f0 (placeOf l.length f0 cs j0) i ∈ Region.ready .any (altOf l f0 cs j0).toArray (L j0)) ∧
        (i ≠ f0 → ∃ j1, j0 ≤ j1 ∧ j1 ≤ cs.length ∧ (∀ k c, cs[k]? = some c → ((a.setIfInBounds i true).getD c false = true ↔ k < j1)) ∧ ∀ j, j1 ≤ j → j ≤ cs.length → i < l.length ∧ pOf f0 (placeOf l.length f0 cs j) i ∈ Region.ready .any (altOf l f0 cs j).toArray (L j)) := by
    intro j0 a L hf hj hpre hL i hi
    have hi' := hi
    rw [ready_iff (hL j0 hj).1] at hi'
    obtain ⟨hun, o, ho, hon⟩ := hi'
    have hil := (List.getElem?_eq_some_iff.1 ho).1
    refine ⟨fun he => ready_var (V j0 hj) (hL j0 hj) hi fun k hk => ?_, fun hne => ?_⟩
    · rw [hf0 j0 i he] at hk
      obtain ⟨m, hm, hc⟩ := mem_take_get hk
      exact ⟨(h2 k (List.mem_of_mem_take hk)).1, (hpre m k hc).2 hm⟩
    · by_cases hc : i ∈ cs
      · obtain ⟨k, hk⟩ := List.getElem?_of_mem hc
        have hkl := (List.getElem?_eq_some_iff.1 hk).1
        have hkj : k = j0 := by
          have hge : ¬ k < j0 := fun q => by have := (hpre k i hk).2 q; rw [hun] at this; cases this
          rcases Nat.lt_or_ge j0 k with hlt | hge2
          · exfalso
            obtain ⟨k', rfl⟩ : ∃ k', k = k' + 1 := ⟨k - 1, by omega⟩
            obtain ⟨b, hb⟩ : ∃ b, cs[k']? = some b := ⟨cs[k'], List.getElem?_eq_getElem (by omega)⟩
            obtain ⟨o2, ho2, hbo⟩ := h3 k' b i hb hk
            rw [ho] at ho2
            cases ho2
            have := (hpre k' b hb).1 (hon b hbo)
            omega
          · omega
        subst hkj
        refine ⟨k + 1, by omega, by omega, fun m c hmc => ?_, fun j hj1 hj2 => ready_var (V j hj2) (hL j hj2) hi fun x hx => ?_⟩
        · by_cases hci : c = i
          · subst hci
            rw [getD_set_self (by rw [(hL k hj).1]; exact hil)]
            have : m = k := by
              rcases Nat.lt_trichotomy m k with q | q | q
              · exact absurd hk (h6 m k c q hmc)
              · exact q
              · exact absurd hmc (h6 k m c q hk)
            simp [this]
          · rw [getD_set_ne' (fun e => hci e.symm), hpre m c hmc]
            have : m ≠ k := by rintro rfl; rw [hk] at hmc; exact hci (Option.some.inj hmc).symm
            omega
        · have : i ∉ cs.drop j := by
            intro hd
            obtain ⟨m, hm, hmc⟩ := mem_drop_get hd
            exact h6 k m i (by omega) hk hmc
          rw [hno j i hne this] at hx
          cases hx
      · refine ⟨j0, Nat.le_refl _, hj, fun m c hmc => ?_, fun j hj1 hj2 => ready_var (V j hj2) (hL j hj2) hi fun x hx => ?_⟩
        · have : c ≠ i := by rintro rfl; exact hc (List.mem_of_getElem? hmc)
          rw [getD_set_ne' (fun e => this e.symm), hpre m c hmc]
        · rw [hno j i hne fun h => hc (List.mem_of_mem_drop h)] at hx
          cases hx
  intro r
  induction r with
  | nil =>
    intro n j0 a L hf hj hpre hL hl
    refine ⟨j0, Nat.le_refl _, hj, ?_⟩
    rw [linP_nil] at hl
    rw [List.map_nil, linP_nil]
    rcases hl with hl | hl
    · exact .inl hl
    · exact .inr (ready_back (V j0 hj) (hL j0 hj) hl)
  | cons i r ih =>
    intro n j0 a L hf hj hpre hL hl
    cases n with
    | zero => exact hl.elim
    | succ n =>
      obtain ⟨hi, hl⟩ := hl
      obtain ⟨b1, b2⟩ := base j0 a L hf hj hpre hL i hi
      by_cases he : i = f0
      · obtain ⟨hil, hr⟩ := b1 he
        refine ⟨j0, Nat.le_refl _, hj, hr, ?_⟩
        exact lin_two (V j0 hj) h1 (hex j0) r n _ _ ((hL j0 hj).set (V j0 hj) hil) (by rw [← he]; exact getD_set_self (by rw [(hL j0 hj).1]; exact hil)) hl
      · obtain ⟨j1, q1, q2, q3, q4⟩ := b2 he
        have hil := (q4 j1 (Nat.le_refl _) q2).1
        obtain ⟨j, w1, w2, w3⟩ := ih n j1 (a.setIfInBounds i true) (fun j => (L j).setIfInBounds (pOf f0 (placeOf l.length f0 cs j) i) true) (by rw [getD_set_ne' he]; exact hf) q2 q3 (fun j hj => (hL j hj).set (V j hj) hil) hl
        exact ⟨j, by omega, w2, (q4 j w1 w2).2, w3⟩
end
section
variable {E : Env} {n N : Nat} {f : Nat → AV} {σ : Store} {Q : AExit → (Nat → AV) → Store → Prop}
/-- A region that draws its order, with a floating operation: one walk for each place. -/
theorem AW.drawF (ow : List Nat) {id : Nat} {l : List Oper} {f0 : Nat} {cs : List Nat} (ans : Nat → List An) (hm : E.P.follows .mixedOrders = true) (hF : floatOk l f0 cs = true) (hB : ∀ j, j ≤ cs.length → planOk (altOf l f0 cs j) (ans j) = true)
    (h : ∀ j, j ≤ cs.length → aopsE E ow N (altOf l f0 cs j).toArray (fun f σ => Q .normal f σ) (ans j) (altOf l f0 cs j) 0 0 [] [] f σ) :
    AW E n N (.region id l.toArray true) f σ Q := by
  intro rd ds0 Γ w a hrd hn hr ht hd
  obtain ⟨hx, hr'⟩ := hr.drew
  refine wpIn_region_draw fun t => ?_
  simp only [Region.schedule, hm, Bool.true_or, if_true]
  obtain ⟨h1, h2, _⟩ := float_facts hF
  have hlin : LinP l l.length (Array.replicate l.length false) (Region.linearise .any l.toArray t) := by
    have := lin_go l l.length t (Array.replicate l.length false)
    simpa [Region.linearise] using this
  have hrep : ∀ (m i : Nat), (Array.replicate m false).getD i false = false := fun m i => by
    simp only [Array.getD]
    split <;> simp
  obtain ⟨j, _, hj, hlj⟩ := lin_alts hF _ l.length 0 (Array.replicate l.length false) (fun _ => Array.replicate l.length false) (hrep _ _) (Nat.zero_le _) (fun k c _ => by rw [hrep]; simp) (fun j hj => ⟨by simp, by simp, fun i hi => by rw [hrep, hrep]⟩) hlin
  have V := altOf_var hF hj
  have hany := anyE_of_plan (E := E) (ow := ow) (N := N) (hB j hj) (h j hj)
  rw [show (altOf l f0 cs j).length = l.length from V.len] at hany
  have hseq := seq_var (E := E) (ow := ow) (N := N) V _ f σ (LinP.lt (by simp) hlin) (any_seq (E := E) (ow := ow) (N := N) _ _ _ f σ hlj hany)
  refine seqE_ok (E := E) (ow := ow) (N := N) (n := n) (Γ0 := Γ) (w0 := w) (rd := rd) (ds0 := ds0) (Q := fun f σ => Q .normal f σ) ?_ ?_ hrd.opAt _ f σ Γ _ a (hx.mono hn) hr' (ht.ext hx) (hd.ext hr hx) hseq
  · intro Γ' w' f' σ' a' hx' hr'' ht' hd' hq
    exact .inl ⟨Γ', f', σ', .normal, trivial, hx', hr'', ht', hd', hq⟩
  · intro v w' a' hp hm
    exact .inr ⟨v, rfl, hp, hm⟩
end
end Go.AW
end
