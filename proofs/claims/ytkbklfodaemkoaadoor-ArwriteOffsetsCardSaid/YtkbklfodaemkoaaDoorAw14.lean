/- More rules of the walk: scopes, results written down otherwise, a nil slice taken into the store; bytes and strings as lists. No condition. -/
import Derived.Test.YtkbklfodaemkoaaDoorAw13
import Derived.Scope
import Derived.KernelRfl
set_option linter.unusedVariables false
set_option linter.unusedSimpArgs false
set_option linter.unnecessarySimpa false
namespace Go.AW
open Go

section
variable {E : Env} {n N : Nat} {f : Nat → AV} {σ : Store} {Q : AExit → (Nat → AV) → Store → Prop}

def ANoGoto (Q : AExit → (Nat → AV) → Store → Prop) : AExit → (Nat → AV) → Store → Prop
  | .goto _, _, _ => False
  | e, f, σ => Q e f σ

theorem wpIn_scope_straight {F : Fence} {m : Nat} {P : Program} {R : Exit → Act → World → Prop} {a : Act} {w : World} {c : Code} (h : c.wpIn F m P (Exit.noGoto R) a w) : (Code.scope c).wpIn F m P R a w := by
  intro b k cs hro hb hr
  have s1 : step P (lone (b.atR a (.code (.scope c) :: k)) cs w) = .next (lone (b.atR a (.code c :: .inScope c :: k)) cs w) := step_lone_go (by simp [stepG, stepG.exec, Frame.atR])
  have s2 : ∀ a w, step P (lone (b.atR a (.inScope c :: k)) cs w) = .next (lone (b.atR a k) cs w) := fun a w => step_lone_go (by simp [stepG, stepG.exec, Frame.atR])
  have h0 : (lone (b.atR a (.code (.scope c) :: k)) cs w).fenced P F := fenced_calm hb hr rfl
  obtain ⟨e, a₁, w₁, hq, harr⟩ := h b (.inScope c :: k) cs hro hb hr
  cases e with
  | normal => exact ⟨.normal, a₁, w₁, hq, .head h0 s1 (StepsIn.trans harr (.one (fenced_calm (fr := b.atR a₁ (.inScope c :: k)) hb hr rfl) (s2 _ _)))⟩
  | exit id =>
    have hx : exitTo id (.inScope c :: k) = exitTo id k := by simp [exitTo]
    exact ⟨.exit id, a₁, w₁, hq, fun k' hk => .head h0 s1 (harr.1 k' (by rw [hx]; exact hk)), fun hr' hk => let ⟨k₁, h1, h2⟩ := harr.2 hr' (by rw [hx]; exact hk); ⟨k₁, h1, .head h0 s1 h2⟩⟩
  | goto l => exact hq.elim
  | ret => exact ⟨_, a₁, w₁, hq, .of_steps (.one h0 s1) harr⟩
  | panic ch => exact ⟨_, a₁, w₁, hq, .of_steps (.one h0 s1) harr⟩
  | outgrown => exact ⟨_, a₁, w₁, hq, .of_steps (.one h0 s1) harr⟩

theorem AW.scope {c : Code} (h : AW E n N c f σ (ANoGoto Q)) : AW E n N (.scope c) f σ Q := by
  intro rd ds0 Γ w a hn hr ht hd
  refine wpIn_scope_straight (wpIn_mono (h rd ds0 Γ w a hn hr ht hd) ?_)
  rintro e a' w' (⟨Γ', f', σ', x, h1, h2, h3, h4, h5, h6⟩ | ⟨v, rfl, h⟩)
  · cases x <;> cases e <;> first | exact h1.elim | exact h6.elim | exact .inl ⟨Γ', f', σ', _, h1, h2, h3, h4, h5, h6⟩
  · exact .inr ⟨v, rfl, h⟩

/-- A nil slice taken into the store, to be grown there. -/
theorem AW.adopt {c : Code} (t : Nat) (T : TypeId) (ht : f t = .nl) (htN : t < N) (h : AW E n N c (upd f t (.rs σ.next 0 0 0)) (σ.alloc (.arr T 0 [])) Q) : AW E n N c f σ Q := by
  intro rd ds0 Γ w a hn hr hT hd
  have hg : w.grownBy w none := ⟨rfl, rfl, rfl, Nat.le_refl _, fun _ _ _ => rfl⟩
  obtain ⟨hx, hR⟩ := hr.new (o' := .arr T 0 []) (l' := ⟨none, tsz E.P T, 0, 0, none⟩) hg (.inl rfl) rfl (by
    intro hx
    exact ⟨rfl, rfl, by simp, by simp, Nat.zero_le _, rfl, rfl⟩)
  have hsz := hT.size
  have hv : VR (Γ.alloc ⟨none, tsz E.P T, 0, 0, none⟩) w (.rs σ.next 0 0 0) (a.tmps.getD t Go.undef) := by
    have hv0 := hT.rel t htN
    rw [ht] at hv0
    generalize a.tmps.getD t Go.undef = v at hv0
    cases hv0 with
    | nl ad =>
      refine .rs σ.next 0 0 0 ad 0 (by simp [Ctx.alloc, hr.next]) (Nat.le_refl _) fun l hl => ?_
      simp [Ctx.alloc, hr.next] at hl
      subst hl
      exact ⟨Nat.zero_le _, fun _ => ⟨rfl, rfl, rfl⟩⟩
  have hT' : TR N (Γ.alloc ⟨none, tsz E.P T, 0, 0, none⟩) w (upd f t (.rs σ.next 0 0 0)) a.tmps := by
    have h0 := hT.ext hx
    refine ⟨hT.size, fun s hs => ?_, fun s hs => ?_⟩
    · unfold upd
      split
      · rename_i e; subst e; exact hv
      · exact h0.rel s hs
    · unfold upd
      rw [if_neg (by omega)]; exact hT.far s hs
  exact wpIn_mono (h rd ds0 (Γ.alloc ⟨none, tsz E.P T, 0, 0, none⟩) w a (Nat.le_trans hn hx.le') hR hT' hd) fun e a w' hp => Post.trans (hx.mono hn) hp

end

/-- A contract whose answer, or whose store, is written down otherwise. -/
theorem ACalls.fin {E : Env} {f : FuncId} {args : List AV} {σ : Store} {Q Q' : AV → Store → Prop} (h : ACalls E f args σ Q) (hq : StoreBel σ → ∀ a σ', Q a σ' → Fin σ.next σ' a Q') : ACalls E f args σ Q' := by
  intro Γ w vs hr hv
  refine (h Γ w vs hr hv).mono ?_
  rintro e w' (⟨v, rfl, Γ', a, σ', h1, h2, h3, h4⟩ | h)
  · obtain ⟨a', σ2, k1, k2, k3, k4⟩ := hq hr.storeBel a σ' h4
    obtain ⟨Γ2, m1, m2, m3⟩ := k1.ctx h2
    refine .inl ⟨v, rfl, Γ2, a', σ2, ?_, m2, m3 _ _ _ h3 k2 k3, k4⟩
    rw [← hr.next] at m1
    exact h1.trans m1
  · exact .inr h

/-! ### Bytes and strings as lists -/
def bs (l : List UInt8) : ByteArray := ⟨l.toArray⟩
@[simp] theorem mk_bs (l : List UInt8) : ByteArray.mk l.toArray = bs l := rfl
@[simp] theorem mk_bs' (l : List UInt8) : ByteArray.mk (Array.mk l) = bs l := rfl
@[simp] theorem bs_size (l : List UInt8) : (bs l).size = l.length := by show l.toArray.size = _; simp
@[simp] theorem bs_data (l : List UInt8) : (bs l).data.toList = l := rfl
@[simp] theorem bs_toList (l : List UInt8) : (bs l).toList = l := by
  rw [ByteArray.toList_eq]; rfl
@[simp] theorem bs_append (a b : List UInt8) : bs a ++ bs b = bs (a ++ b) := ByteArray.mk_append_mk a b
@[simp] theorem bs_extract (l : List UInt8) (i j : Nat) : (bs l).extract i j = bs ((l.drop i).take (j - i)) := ByteArray.extract_mk l i j
theorem eq_bs (s : ByteArray) : s = bs s.data.toList := rfl
@[simp] theorem bs_inj (a b : List UInt8) : bs a = bs b ↔ a = b := ⟨fun h => by have := congrArg (fun x => x.data.toList) h; simpa using this, fun h => by rw [h]⟩
@[simp] theorem bAt_bs (l : List UInt8) (n : Int) : bAt (bs l) n = ((l.getD n.toNat 0).toNat : Int) := rfl
/-- The value of a string. -/
def str (l : List UInt8) : AV := .c (.string (bs l))
/-- The value of a slice of bytes that is written no more. -/
def byts (l : List UInt8) : AV := .ps (l.map byteV)
@[simp] theorem map_byte (l : List UInt8) : l.map (AV.byte ∘ byteV) = l := by
  induction l with
  | nil => rfl
  | cons x l ih => simp [ih]

theorem u8_eq (a b : UInt8) : ((a.toNat : Int) == (b.toNat : Int)) = (a == b) := by
  by_cases h : a = b
  · subst h; simp
  · have : a.toNat ≠ b.toNat := fun e => h (UInt8.toNat_inj.1 e)
    have h1 : (a == b) = false := by simpa using h
    rw [h1]; simp; omega

/-- A row that the store owns: what is handed back of it. -/
theorem SR.row {σ σ2 : Store} {i g off len : Nat} {T : TypeId} {es : List AV} {es' : List AV} (hi : σ.get i = some (.arr T g es)) (h2 : σ2.get i = none) (hle : off + len ≤ es.length) (h : (es.drop off).take len = es') : SR σ σ2 (.rs i g off len) (.ps es') := by
  subst h
  have key : ∀ (k : Nat) (a b : AV), es[off + k]? = some a → ((es.drop off).take len)[k]? = some b → a = b := by
    intro k a b ha hb
    rw [List.getElem?_take] at hb
    split at hb
    · rw [List.getElem?_drop, ha] at hb; exact Option.some.inj hb
    · cases hb
  refine .rs i g off len T es _ hi h2 hle (by simp; omega) (fun k a b ha hb => by rw [key k a b ha hb]) fun k a b j x y ha hb hx hy => ?_
  rw [key k a b ha hb, hy] at hx
  exact .of_eq (Option.some.inj hx).symm
end Go.AW
