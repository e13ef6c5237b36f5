/- What a cell of an object of the store holds, written down otherwise: a nil slice taken into the store, a row that is written no more. No condition. -/
import Derived.Test.YtkbklfodaemkoaaDoorAw17
set_option linter.unusedVariables false
set_option linter.unusedSimpArgs false
set_option linter.unnecessarySimpa false
namespace Go.AW
open Go

theorem R.recell {E : Env} {Γ Γ2 : Ctx} {σ σ2 : Store} {w : World} (hr : R E Γ σ w) (hr2 : R E Γ2 σ2 w) {p : Nat} {T : TypeId} {g : Nat} {es es' : List AV} (hp : σ.get p = some (.arr T g es)) (hp2 : σ2.get p = some (.arr T g es)) (hΓ : Γ2.get p = Γ.get p)
    (hl : es'.length = es.length) (hc : ∀ (k : Nat) (e e' : AV), es[k]? = some e → es'[k]? = some e' → e'.cells.length = e.cells.length)
    (hv : ∀ (k : Nat) (e e' : AV) (j : Nat) (x y : AV) (u : Value), es[k]? = some e → es'[k]? = some e' → e.cells[j]? = some x → e'.cells[j]? = some y → VR Γ w x u → VR Γ2 w y u) : R E Γ2 (σ2.set p (.arr T g es')) w := by
  refine ⟨hr2.next, fun i => ?_, fun i hi => ?_, hr2.inj, fun i o l ho hil => ?_, hr2.glob, hr2.gbel, hr2.base, fun i o l ho hil => ?_⟩
  · rw [hr2.dom i]
    show _ = (if i = p then some _ else σ2.get i).isSome
    split
    · rename_i e; subst e; rw [hp2]; rfl
    · rfl
  · show (if i = p then some _ else σ2.get i) = none
    split
    · rename_i e; subst e
      have := hr2.bnd i hi
      rw [hp2] at this; cases this
    · exact hr2.bnd i hi
  · have ho : (if i = p then some (AObj.arr T g es') else σ2.get i) = some o := ho
    by_cases e : i = p
    · subst e
      rw [if_pos rfl] at ho
      obtain rfl := Option.some.inj ho
      have hl1 : Γ.get i = some l := by rw [← hΓ]; exact hil
      have h1 := hr.objs i _ l hp hl1
      simp only [ObjRel] at h1 ⊢
      obtain ⟨a1, a2, a3, a4, a5, a6⟩ := h1
      refine ⟨a1, a2, fun e' he' => ?_, by omega, a5, ?_⟩
      · obtain ⟨k, hk⟩ := List.getElem?_of_mem he'
        have hkl := (List.getElem?_eq_some_iff.1 hk).1
        have hke : es[k]? = some es[k] := List.getElem?_eq_getElem (by omega)
        rw [hc k _ _ hke hk]; exact a3 _ (List.getElem_mem _)
      · cases hb : l.blk with
        | none =>
          simp only [hb] at a6 ⊢
          refine ⟨?_, a6.2⟩
          have := a6.1; subst this
          simpa using hl
        | some b =>
          simp only [hb] at a6 ⊢
          obtain ⟨xs, frz, q1, q2, q3, q4⟩ := a6
          refine ⟨xs, frz, q1, q2, q3, fun k e' j y hk hj => ?_⟩
          have hkl := (List.getElem?_eq_some_iff.1 hk).1
          have hke : es[k]? = some es[k] := List.getElem?_eq_getElem (by omega)
          have hcl := hc k _ _ hke hk
          have hjl := (List.getElem?_eq_some_iff.1 hj).1
          have hjx : (es[k]).cells[j]? = some ((es[k]).cells[j]'(by omega)) := List.getElem?_eq_getElem (by omega)
          obtain ⟨u, u1, u2, u3⟩ := q4 k _ j _ hke hjx
          exact ⟨u, u1, u2, hv k _ _ j _ _ u hke hk hjx hj u3⟩
    · rw [if_neg e] at ho
      exact hr2.objs i o l ho hil
  · have ho : (if i = p then some (AObj.arr T g es') else σ2.get i) = some o := ho
    by_cases e : i = p
    · subst e
      rw [if_pos rfl] at ho
      obtain rfl := Option.some.inj ho
      exact (hr2.lims i _ l hp2 hil).trans rfl
    · rw [if_neg e] at ho
      exact hr2.lims i o l ho hil

section
variable {E : Env} {n N : Nat} {f : Nat → AV} {σ : Store} {Q : AExit → (Nat → AV) → Store → Prop}

/-- A nil slice in a cell of an object of the store, taken into the store. -/
theorem AW.adoptCell {c : Code} {p : Nat} {T : TypeId} {g : Nat} {es es' : List AV} (T' : TypeId) (hp : σ.get p = some (.arr T g es)) (hl : es'.length = es.length) (hc : ∀ (k : Nat) (e e' : AV), es[k]? = some e → es'[k]? = some e' → e'.cells.length = e.cells.length)
    (hv : ∀ (k : Nat) (e e' : AV) (j : Nat) (x y : AV), es[k]? = some e → es'[k]? = some e' → e.cells[j]? = some x → e'.cells[j]? = some y → y = x ∨ (x = .nl ∧ y = .rs σ.next 0 0 0))
    (h : AW E n N c f ((σ.alloc (.arr T' 0 [])).set p (.arr T g es')) Q) : AW E n N c f σ Q := by
  intro rd ds0 Γ w a hn hr hT hd
  have hg : w.grownBy w none := ⟨rfl, rfl, rfl, Nat.le_refl _, fun _ _ _ => rfl⟩
  obtain ⟨hx, hR⟩ := hr.new (o' := .arr T' 0 []) (l' := ⟨none, tsz E.P T', 0, 0, none⟩) hg (.inl rfl) rfl (by
    intro hx
    exact ⟨rfl, rfl, by simp, by simp, Nat.zero_le _, rfl, rfl⟩)
  have hpn : p ≠ σ.next := fun e => by
    have := hr.bnd p (by omega)
    rw [hp] at this; cases this
  have hR2 := hr.recell hR (es' := es') hp (by simp [hpn, hp]) (by simp [Ctx.alloc, hr.next, hpn]) hl hc (by
    intro k e e' j x y u h1 h2 h3 h4 h5
    rcases hv k e e' j x y h1 h2 h3 h4 with rfl | ⟨rfl, rfl⟩
    · exact h5.ext hx
    · cases h5 with
      | nl ad =>
        refine .rs σ.next 0 0 0 ad 0 (by simp [Ctx.alloc, hr.next]) (Nat.le_refl _) fun l hl => ?_
        simp [Ctx.alloc, hr.next] at hl
        subst hl
        exact ⟨Nat.zero_le _, fun _ => ⟨rfl, rfl, rfl⟩⟩)
  have hT' : TR N (Γ.alloc ⟨none, tsz E.P T', 0, 0, none⟩) w f a.tmps := hT.ext hx
  exact wpIn_mono (h rd ds0 (Γ.alloc ⟨none, tsz E.P T', 0, 0, none⟩) w a (Nat.le_trans hn hx.le') hR2 hT' hd) fun e a w' hp => Post.trans (hx.mono hn) hp

/-- Some objects are dropped from the store; an object that stays, and the variables, are written down otherwise. -/
theorem AW.sealCell {c : Code} (f2 : Nat → AV) (σ2 : Store) {p : Nat} {T : TypeId} {g : Nat} {es es' : List AV} (hsub : Store.sub σ2 σ) (hp : σ2.get p = some (.arr T g es)) (hl : es'.length = es.length)
    (hc : ∀ (k : Nat) (e e' : AV), es[k]? = some e → es'[k]? = some e' → e'.cells.length = e.cells.length)
    (hv : ∀ (k : Nat) (e e' : AV) (j : Nat) (x y : AV), es[k]? = some e → es'[k]? = some e' → e.cells[j]? = some x → e'.cells[j]? = some y → SR σ σ2 x y)
    (hf : ∀ t, t < N → SR σ σ2 (f t) (f2 t)) (hN : ∀ t, N ≤ t → f2 t = .junk)
    (h : AW E n N c f2 (σ2.set p (.arr T g es')) Q) : AW E n N c f σ Q := by
  intro rd ds0 Γ w a hn hr hT hd
  have hR := hr.only hsub
  have hx : ExtN n Γ w (Γ.only σ2) w := Ctx.only_ext Γ σ2 w hn
  have hp1 := hsub.2 p _ hp
  have hR2 := hr.recell hR (es' := es') hp1 hp (by
    unfold Ctx.only
    simp [hp]) hl hc (fun k e e' j x y u h1 h2 h3 h4 h5 => h5.sr hr (hv k e e' j x y h1 h2 h3 h4))
  have hT2 : TR N (Γ.only σ2) w f2 a.tmps := ⟨hT.size, fun t ht => (hT.rel t ht).sr hr (hf t ht), hN⟩
  exact wpIn_mono (h rd ds0 (Γ.only σ2) w a hx.le' hR2 hT2 (hd.ext hr hx)) fun e a w' hp => Post.trans hx hp
end
end Go.AW
