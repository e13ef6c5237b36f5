/- A call whose arguments are rows of the store that the callee only reads: written down otherwise ahead of the call. No condition. -/
import Derived.Test.YtkbklfodaemkoaaDoorAw19
set_option linter.unusedVariables false
set_option linter.unusedSimpArgs false
set_option linter.unnecessarySimpa false
namespace Go.AW
open Go

/-- Objects are dropped from the store ahead of a call; the arguments are written down otherwise. -/
theorem ACalls.lend {E : Env} {f : FuncId} {args args' : List AV} {σ σ2 : Store} {Q : AV → Store → Prop} (hsub : Store.sub σ2 σ) (hlen : args.length = args'.length) (hargs : ∀ (j : Nat) (a b : AV), args[j]? = some a → args'[j]? = some b → SR σ σ2 a b)
    (h : ACalls E f args' σ2 Q) : ACalls E f args σ Q := by
  intro Γ w vs hr hv
  have hR := hr.only hsub
  have hx : ExtN Γ.next Γ w (Γ.only σ2) w := Ctx.only_ext Γ σ2 w (Nat.le_refl _)
  refine (h (Γ.only σ2) w vs hR ⟨by rw [← hlen]; exact hv.1, fun j b v hb hvj => ?_⟩).mono ?_
  · have hj := (List.getElem?_eq_some_iff.1 hb).1
    have ha : args[j]? = some (args[j]'(by omega)) := List.getElem?_eq_getElem _
    exact (hv.2 j _ v ha hvj).sr hr (hargs j _ b ha hb)
  · rintro e w' (⟨v, rfl, Γ', a, σ', h1, h2, h3, h4⟩ | ⟨v, rfl, Γ', a, σ', h1, h2, h3, h4⟩)
    · exact .inl ⟨v, rfl, Γ', a, σ', hx.trans h1, h2, h3, h4⟩
    · exact .inr ⟨v, rfl, Γ', a, σ', hx.trans h1, h2, h3, h4⟩

theorem Fin.c {σ s1 : Store} (hσ : StoreBel σ) (hle : σ.next ≤ s1.next) (hsame : ∀ j, j < σ.next → s1.get j = σ.get j) {v : Value} {Q : AV → Store → Prop} (h : Q (.c v) σ) : Fin σ.next s1 (.c v) Q :=
  Fin.back hσ hle (fun i o ho => by rw [hsame i (hσ i o ho).1]; exact ho) (.refl _) (.c v) h

section
variable {E : Env} {n N : Nat} {f : Nat → AV} {σ : Store} {Q : AExit → (Nat → AV) → Store → Prop}
/-- What the store holds lies below its end. -/
theorem AW.bounded {c : Code} (h : (∀ i o, σ.get i = some o → i < σ.next) → AW E n N c f σ Q) : AW E n N c f σ Q :=
  fun rd ds0 Γ w a hn hr ht hd => h (fun i o ho => by obtain ⟨_, _, _, hlt⟩ := hr.loc ho; exact hlt) rd ds0 Γ w a hn hr ht hd
end

/-- The store as it was below n. -/
def Store.below (σ : Store) (n : Nat) : Store := ⟨fun k => if k < n then σ.get k else none, σ.next⟩
@[simp] theorem below_get (σ : Store) (n k : Nat) : (Store.below σ n).get k = if k < n then σ.get k else none := rfl
@[simp] theorem below_next (σ : Store) (n : Nat) : (Store.below σ n).next = σ.next := rfl
theorem below_sub (σ : Store) (n : Nat) : Store.sub (Store.below σ n) σ := ⟨rfl, fun i o h => by
  simp only [below_get] at h
  split at h
  · exact h
  · cases h⟩
end Go.AW
