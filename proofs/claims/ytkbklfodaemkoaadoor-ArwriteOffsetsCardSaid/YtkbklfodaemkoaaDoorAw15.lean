/- The steps of a walk that keep only the variables which are read later. No condition. -/
import Derived.Test.YtkbklfodaemkoaaDoorAw14
import Derived.Laws.BitsLemmas
set_option linter.unusedVariables false
set_option linter.unusedSimpArgs false
set_option linter.unnecessarySimpa false
namespace Go.AW
open Go

section
variable {E : Env} {n N : Nat} {f : Nat → AV} {σ : Store} {Q : AExit → (Nat → AV) → Store → Prop}

/-- Only these variables. -/
def pick (l : List Nat) (f : Nat → AV) : List (Nat × AV) := l.map fun t => (t, f t)
@[simp] theorem pick_nil (f : Nat → AV) : pick [] f = [] := rfl
@[simp] theorem pick_cons (t : Nat) (l : List Nat) (f : Nat → AV) : pick (t :: l) f = (t, f t) :: pick l f := rfl

theorem fr_pick (l : List Nat) (f : Nat → AV) (t : Nat) : fr (pick l f) t = f t ∨ fr (pick l f) t = .junk := by
  induction l with
  | nil => exact .inr rfl
  | cons s l ih =>
    rw [pick_cons]
    unfold fr
    split
    · rename_i h; simp only at h; subst h; exact .inl rfl
    · exact ih

theorem AW.keep {c : Code} (l : List Nat) (h : AW E n N c (fr (pick l f)) σ Q) : AW E n N c f σ Q := by
  intro rd ds0 Γ w a hn hr ht hd
  refine h rd ds0 Γ w a hn hr ⟨ht.size, fun t hlt => ?_, fun t hge => ?_⟩ hd
  · rcases fr_pick l f t with e | e
    · rw [e]; exact ht.rel t hlt
    · rw [e]; exact .junk _
  · rcases fr_pick l f t with e | e
    · rw [e]; exact ht.far t hge
    · exact e

theorem AW.seqL (l : List Nat) {c d : Code} (h : ∀ K : List (Nat × AV) → Store → Prop, (∀ L σ, AW E n N d (fr L) σ Q → K L σ) → AW E n N c f σ (AThen (fun f σ => K (pick l f) σ) Q)) : AW E n N (.seq c d) f σ Q :=
  AW.seq_k fun K hK => AW.mono (h (fun L σ => AW E n N d (fr L) σ Q) fun _ _ h => h) fun e f σ hq => by
    cases e <;> first | exact hK _ _ (AW.keep l hq) | exact hq

theorem AW.stepL (ow l : List Nat) {id : Nat} {ops : List Oper} {d : Code} (h : ∀ K : List (Nat × AV) → Store → Prop, (∀ L σ, AW E n N d (fr L) σ Q → K L σ) → aops E ow N ops.toArray ops f σ fun f σ => K (pick l f) σ) :
    AW E n N (.seq (.region id ops.toArray false) d) f σ Q :=
  AW.seqL l fun K hK => AW.region (ow := ow) (h K hK)

theorem AW.stepDL (ow l : List Nat) {id : Nat} {ops : List Oper} {d : Code} (hm : E.P.follows .mixedOrders = true) (hB : Region.lexFrom .any ops.toArray ops.length 0 (Array.replicate ops.length false) = true)
    (h : ∀ K : List (Nat × AV) → Store → Prop, (∀ L σ, AW E n N d (fr L) σ Q → K L σ) → aopsQ E ow N ops.toArray σ (fun f => K (pick l f) σ) ops f) :
    AW E n N (.seq (.region id ops.toArray true) d) f σ Q :=
  AW.seqL l fun K hK => AW.draw ow hm hB (h K hK)

end
@[simp] theorem alloc_get (σ : Store) (o : AObj) (j : Nat) : (σ.alloc o).get j = if j = σ.next then some o else σ.get j := (rfl)
@[simp] theorem alloc_next (σ : Store) (o : AObj) : (σ.alloc o).next = σ.next + 1 := (rfl)
@[simp] theorem set_get (σ : Store) (i : Nat) (o : AObj) (j : Nat) : (σ.set i o).get j = if j = i then some o else σ.get j := (rfl)
@[simp] theorem set_next (σ : Store) (i : Nat) (o : AObj) : (σ.set i o).next = σ.next := (rfl)
@[simp] theorem set_set (σ : Store) (i : Nat) (o o' : AObj) : (σ.set i o).set i o' = σ.set i o' := by
  unfold Store.set; simp only [Store.mk.injEq, and_true]; funext j; split <;> rfl
@[simp] theorem alloc_set (σ : Store) (o o' : AObj) : (σ.alloc o).set σ.next o' = σ.alloc o' := by
  unfold Store.set Store.alloc; simp only [Store.mk.injEq, and_true]; funext j; split <;> rfl
attribute [simp] byts str
@[simp] theorem ex_map {α β : Type} {p : α → Prop} {f : α → β} {q : β → Prop} : (∃ b, (∃ a, p a ∧ f a = b) ∧ q b) ↔ ∃ a, p a ∧ q (f a) :=
  ⟨fun ⟨_, ⟨a, h, e⟩, k⟩ => ⟨a, h, e ▸ k⟩, fun ⟨a, h, k⟩ => ⟨_, ⟨a, h, rfl⟩, k⟩⟩
@[simp] theorem byteV_eq (b : UInt8) : byteV b = .c (.int .u8 b.toNat) := rfl
@[simp] theorem take_len_map {α β : Type} (l : List α) (f : α → β) : (l.map f).take l.length = l.map f := List.take_of_length_le (by simp)
theorem wrap8_id {x : Int} (h1 : 0 ≤ x) (h2 : x ≤ 255) : IntKind.u8.wrap x = x := by rw [IntKind.wrap_u8]; omega
theorem get_ex {α : Type} {l : List α} {i : Nat} (h : i < l.length) : ∃ c, l[i]? = some c := ⟨_, List.getElem?_eq_getElem h⟩
theorem u8_of_int {c d : UInt8} (h : (c.toNat : Int) = (d.toNat : Int)) : c = d := UInt8.toNat_inj.1 (by omega)
theorem u8_ne_int {c d : UInt8} (h : ¬ (c.toNat : Int) = (d.toNat : Int)) : c ≠ d := fun e => h (by rw [e])
theorem u8_toNat_eq (a : UInt8) (n : Nat) (hn : n < 256) : (a.toNat = n) = (a = UInt8.ofNat n) := by
  apply propext
  constructor
  · intro h; subst h; simp
  · intro h; subst h; simp; omega
end Go.AW
