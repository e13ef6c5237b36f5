/- Writing and making objects of the store: what becomes of the relation between store and memory. No condition. -/
import Derived.Test.YtkbklfodaemkoaaDoorAw2
set_option linter.unusedVariables false
set_option linter.unusedSimpArgs false
set_option linter.unnecessarySimpa false
namespace Go.AW
open Go

def Ctx.set (Γ : Ctx) (i : Nat) (l : Loc) : Ctx := ⟨fun j => if j = i then some l else Γ.get j, Γ.next, Γ.base⟩
def Ctx.alloc (Γ : Ctx) (l : Loc) : Ctx := ⟨fun j => if j = Γ.next then some l else Γ.get j, Γ.next + 1, Γ.base⟩

theorem R.none_next {E : Env} {Γ : Ctx} {σ : Store} {w : World} (h : R E Γ σ w) {i : Nat} (hi : σ.next ≤ i) : Γ.get i = none := by
  have hd := h.dom i
  rw [h.bnd i hi] at hd
  simpa using hd

/-- An object of the store in another place or with other content. -/
theorem R.upd {E : Env} {Γ : Ctx} {σ : Store} {w w' : World} (h : R E Γ σ w) {i : Nat} {o o' : AObj} {l l' : Loc} (hi : σ.get i = some o) (hl : Γ.get i = some l)
    (hg : w.grownBy w' l.blk) (hgen : l' = l ∨ l.gen < l'.gen) (hblk : l'.blk = l.blk ∨ ∃ b', l'.blk = some b' ∧ w.heap.size ≤ b')
    (hfx : ∀ b m, l.blk = some b → l.lim = some m → (∀ k v, k < m → w.cell? ⟨b, k, none⟩ = some v → w'.cell? ⟨b, k, none⟩ = some v) ∧ (l'.blk = some b → ∃ m', l'.lim = some m' ∧ m ≤ m')) (hlim : l'.lim = o'.lim l')
    (ho : ∀ (hx : ExtN Γ.next Γ w (Γ.set i l') w'), ObjRel E.P (Γ.set i l') w' o' l') :
    ExtN Γ.next Γ w (Γ.set i l') w' ∧ R E (Γ.set i l') (σ.set i o') w' := by
  have hown : ∀ b, b < w.heap.size → (Γ.set i l').owns b → Γ.owns b := by
    rintro b hb ⟨j, lj, hj, hjb⟩
    simp only [Ctx.set] at hj
    split at hj
    · cases hj
      rcases hblk with e | ⟨b', e, hb'⟩
      · exact ⟨i, l, hl, e ▸ hjb⟩
      · rw [e] at hjb; cases hjb; omega
    · exact ⟨j, lj, hj, hjb⟩
  have hx : ExtN Γ.next Γ w (Γ.set i l') w' := by
    refine ⟨hg.os, hg.tape, hg.output, hg.size, ?_, ?_, ?_, Nat.le_refl _, Nat.le_refl _, rfl⟩
    · intro b hb ho
      refine ⟨.inl (hg.block b hb (fun e => ho ⟨i, l, hl, e.symm⟩)), fun hc => ho (hown b hb hc)⟩
    · intro b k hb hf
      by_cases hbl : l.blk = some b
      · obtain ⟨m, h1, h2⟩ := hf i l hl hbl
        obtain ⟨h3, h4⟩ := hfx b m hbl h1
        refine ⟨fun v hv => h3 k v h2 hv, ?_⟩
        intro j lj hj hjb
        simp only [Ctx.set] at hj
        split at hj
        · cases hj
          obtain ⟨m', h5, h6⟩ := h4 hjb
          exact ⟨m', h5, by omega⟩
        · rename_i e; exact absurd (h.inj j i lj l b hj hl hjb hbl) e
      · refine ⟨fun v hv => by rw [World.cell?_of_block (w := w) (hg.block b hb fun e => hbl e.symm)]; exact hv, ?_⟩
        intro j lj hj hjb
        simp only [Ctx.set] at hj
        split at hj
        · cases hj
          rcases hblk with e | ⟨b', e, hb'⟩
          · exact absurd (e ▸ hjb) hbl
          · rw [e] at hjb; cases hjb; omega
        · exact hf j lj hj hjb
    · intro j lj hj hjl
      simp only [Ctx.set] at hjl
      split at hjl
      · rename_i e; subst e; cases hjl
        rcases hgen with e | e
        · exact ⟨l, hl, by rw [e]; exact Nat.le_refl _, fun _ => e⟩
        · exact ⟨l, hl, Nat.le_of_lt e, fun e' => by omega⟩
      · exact ⟨lj, hjl, Nat.le_refl _, fun _ => rfl⟩
  refine ⟨hx, ⟨h.next, ?_, ?_, ?_, ?_, ?_, h.gbel, Nat.le_trans h.base hg.size, ?_⟩⟩
  · intro j
    simp only [Ctx.set, Store.set]
    split
    · rfl
    · exact h.dom j
  · intro j hj
    simp only [Store.set] at hj ⊢
    have hne : j ≠ i := by
      intro e; subst e
      have hd := h.bnd j hj
      rw [hd] at hi; cases hi
    rw [if_neg hne]
    exact h.bnd j hj
  · have hnew : ∀ j lj b, j ≠ i → Γ.get j = some lj → lj.blk = some b → l'.blk = some b → False := by
      intro j lj b hne hj hjb hb
      rcases hblk with e | ⟨b', e, hb'⟩
      · exact hne (h.inj j i lj l b hj hl hjb (e ▸ hb))
      · rw [e] at hb; cases hb
        have := h.blk_lt ⟨j, lj, hj, hjb⟩
        omega
    intro j k lj lk b hj hk hjb hkb
    simp only [Ctx.set] at hj hk
    split at hj
    · rename_i e; cases hj
      split at hk
      · rename_i e'; omega
      · rename_i e'; exact (hnew k lk b e' hk hkb hjb).elim
    · rename_i e
      split at hk
      · cases hk; exact (hnew j lj b e hj hjb hkb).elim
      · exact h.inj j k lj lk b hj hk hjb hkb
  · intro j oj lj hoj hlj
    simp only [Store.set, Ctx.set] at hoj hlj
    split at hoj
    · rename_i e; cases hoj; rw [if_pos e] at hlj; cases hlj; exact ho hx
    · rename_i e
      rw [if_neg e] at hlj
      have hr := h.objs j oj lj hoj hlj
      have hsame : ∀ b, lj.blk = some b → w'.heap[b]? = w.heap[b]? := fun b hb =>
        hg.block b (h.blk_lt ⟨j, lj, hlj, hb⟩) (fun e' => e (h.inj j i lj l b hlj hl hb e'.symm))
      cases oj with
      | arr T g es =>
        simp only [ObjRel] at hr ⊢
        obtain ⟨h1, h2, h3, h4, h5, h6⟩ := hr
        refine ⟨h1, h2, h3, h4, h5, ?_⟩
        cases hb : lj.blk with
        | none => simp only [hb] at h6 ⊢; exact h6
        | some b =>
          simp only [hb] at h6 ⊢
          obtain ⟨xs, fr, q1, q2, q3, q4⟩ := h6
          refine ⟨xs, fr, (hsame b hb).trans q1, q2, q3, fun k e j x hk hj => ?_⟩
          obtain ⟨u, u1, u2, u3⟩ := q4 k e j x hk hj
          exact ⟨u, u1, u2, u3.ext hx⟩
      | map ents born clock =>
        obtain ⟨h0, b, es, q1, q2, q3, q4, q5⟩ := hr
        exact ⟨h0, b, es, q1, (hsame b q1).trans q2, q3, fun k e en hk hen => ⟨(q4 k e en hk hen).1, (q4 k e en hk hen).2.ext hx⟩, q5⟩
      | lp b L =>
        obtain ⟨h0, q1, q2⟩ := hr
        exact ⟨h0, q1, (hsame b q1).trans q2⟩
      | it o =>
        obtain ⟨h0, b, q1, q2, q3⟩ := hr
        exact ⟨h0, b, q1, (hsame b q1).trans q2, q3⟩
      | mi m since seen last =>
        obtain ⟨h0, b, bm, q1, q2, q3⟩ := hr
        exact ⟨h0, b, bm, q1, (hsame b q1).trans q2, q3.ext hx⟩
      | log T m =>
        simp only [ObjRel] at hr ⊢
        obtain ⟨h1, h2, h3, h4, h5⟩ := hr
        refine ⟨h1, h2, h3, h4, ?_⟩
        cases hb : lj.blk with
        | none => simp only [hb] at h5 ⊢; exact h5
        | some b =>
          simp only [hb] at h5 ⊢
          obtain ⟨xs, fr, q1, q2⟩ := h5
          exact ⟨xs, fr, (hsame b hb).trans q1, q2⟩
  · exact fun g cs hgc => (h.glob g cs hgc).ext hx
  · intro j oj lj hoj hlj
    simp only [Store.set, Ctx.set] at hoj hlj
    split at hoj
    · rename_i e; cases hoj; rw [if_pos e] at hlj; cases hlj; exact hlim
    · rename_i e; rw [if_neg e] at hlj; exact h.lims j oj lj hoj hlj

/-- A new object. -/
theorem R.new {E : Env} {Γ : Ctx} {σ : Store} {w w' : World} (h : R E Γ σ w) {o' : AObj} {l' : Loc}
    (hg : w.grownBy w' none) (hblk : l'.blk = none ∨ ∃ b', l'.blk = some b' ∧ w.heap.size ≤ b') (hlim : l'.lim = o'.lim l')
    (ho : ∀ (hx : ExtN Γ.next Γ w (Γ.alloc l') w'), ObjRel E.P (Γ.alloc l') w' o' l') :
    ExtN Γ.next Γ w (Γ.alloc l') w' ∧ R E (Γ.alloc l') (σ.alloc o') w' := by
  have hnn := h.none_next (Nat.le_refl σ.next)
  have hown : ∀ b, b < w.heap.size → (Γ.alloc l').owns b → Γ.owns b := by
    rintro b hb ⟨j, lj, hj, hjb⟩
    simp only [Ctx.alloc] at hj
    split at hj
    · cases hj
      rcases hblk with e | ⟨b', e, hb'⟩
      · rw [e] at hjb; cases hjb
      · rw [e] at hjb; cases hjb; omega
    · exact ⟨j, lj, hj, hjb⟩
  have hx : ExtN Γ.next Γ w (Γ.alloc l') w' := by
    refine ⟨hg.os, hg.tape, hg.output, hg.size, ?_, ?_, ?_, Nat.le_refl _, Nat.le_succ _, rfl⟩
    · intro b hb ho
      exact ⟨.inl (hg.block b hb (by simp)), fun hc => ho (hown b hb hc)⟩
    · intro b k hb hf
      refine ⟨fun v hv => by rw [World.cell?_of_block (w := w) (hg.block b hb (by simp))]; exact hv, ?_⟩
      intro j lj hj hjb
      simp only [Ctx.alloc] at hj
      split at hj
      · cases hj
        rcases hblk with e | ⟨b', e, hb'⟩
        · rw [e] at hjb; cases hjb
        · rw [e] at hjb; cases hjb; omega
      · exact hf j lj hj hjb
    · intro j lj hj hjl
      simp only [Ctx.alloc] at hjl
      rw [if_neg (by omega)] at hjl
      exact ⟨lj, hjl, Nat.le_refl _, fun _ => rfl⟩
  refine ⟨hx, ⟨?_, ?_, ?_, ?_, ?_, ?_, h.gbel, Nat.le_trans h.base hg.size, ?_⟩⟩
  · simp [Ctx.alloc, Store.alloc, h.next]
  · intro j
    simp only [Ctx.alloc, Store.alloc, h.next]
    split
    · rfl
    · exact h.dom j
  · intro j hj
    simp only [Store.alloc] at hj ⊢
    rw [if_neg (by omega)]
    exact h.bnd j (by omega)
  · have hnew : ∀ j lj b, Γ.get j = some lj → lj.blk = some b → l'.blk = some b → False := by
      intro j lj b hj hjb hb
      rcases hblk with e | ⟨b', e, hb'⟩
      · rw [e] at hb; cases hb
      · rw [e] at hb; cases hb
        have := h.blk_lt ⟨j, lj, hj, hjb⟩
        omega
    intro j k lj lk b hj hk hjb hkb
    simp only [Ctx.alloc] at hj hk
    split at hj
    · rename_i e; cases hj
      split at hk
      · rename_i e'; omega
      · exact (hnew k lk b hk hkb hjb).elim
    · split at hk
      · cases hk; exact (hnew j lj b hj hjb hkb).elim
      · exact h.inj j k lj lk b hj hk hjb hkb
  · intro j oj lj hoj hlj
    simp only [Store.alloc, Ctx.alloc, h.next] at hoj hlj
    split at hoj
    · rename_i e; cases hoj; rw [if_pos e] at hlj; cases hlj; exact ho hx
    · rename_i e
      rw [if_neg e] at hlj
      have hr := h.objs j oj lj hoj hlj
      have hsame : ∀ b, lj.blk = some b → w'.heap[b]? = w.heap[b]? := fun b hb =>
        hg.block b (h.blk_lt ⟨j, lj, hlj, hb⟩) (by simp)
      cases oj with
      | arr T g es =>
        simp only [ObjRel] at hr ⊢
        obtain ⟨h1, h2, h3, h4, h5, h6⟩ := hr
        refine ⟨h1, h2, h3, h4, h5, ?_⟩
        cases hb : lj.blk with
        | none => simp only [hb] at h6 ⊢; exact h6
        | some b =>
          simp only [hb] at h6 ⊢
          obtain ⟨xs, fr, q1, q2, q3, q4⟩ := h6
          refine ⟨xs, fr, (hsame b hb).trans q1, q2, q3, fun k e j x hk hj => ?_⟩
          obtain ⟨u, u1, u2, u3⟩ := q4 k e j x hk hj
          exact ⟨u, u1, u2, u3.ext hx⟩
      | map ents born clock =>
        obtain ⟨h0, b, es, q1, q2, q3, q4, q5⟩ := hr
        exact ⟨h0, b, es, q1, (hsame b q1).trans q2, q3, fun k e en hk hen => ⟨(q4 k e en hk hen).1, (q4 k e en hk hen).2.ext hx⟩, q5⟩
      | lp b L =>
        obtain ⟨h0, q1, q2⟩ := hr
        exact ⟨h0, q1, (hsame b q1).trans q2⟩
      | it o =>
        obtain ⟨h0, b, q1, q2, q3⟩ := hr
        exact ⟨h0, b, q1, (hsame b q1).trans q2, q3⟩
      | mi m since seen last =>
        obtain ⟨h0, b, bm, q1, q2, q3⟩ := hr
        exact ⟨h0, b, bm, q1, (hsame b q1).trans q2, q3.ext hx⟩
      | log T m =>
        simp only [ObjRel] at hr ⊢
        obtain ⟨h1, h2, h3, h4, h5⟩ := hr
        refine ⟨h1, h2, h3, h4, ?_⟩
        cases hb : lj.blk with
        | none => simp only [hb] at h5 ⊢; exact h5
        | some b =>
          simp only [hb] at h5 ⊢
          obtain ⟨xs, fr, q1, q2⟩ := h5
          exact ⟨xs, fr, (hsame b hb).trans q1, q2⟩
  · exact fun g cs hgc => (h.glob g cs hgc).ext hx
  · intro j oj lj hoj hlj
    simp only [Store.alloc, Ctx.alloc, h.next] at hoj hlj
    split at hoj
    · rename_i e; cases hoj; rw [if_pos e] at hlj; cases hlj; exact hlim
    · rename_i e; rw [if_neg e] at hlj; exact h.lims j oj lj hoj hlj

/-! ### Cells -/
/-- The cells from an address on stand for these abstract cells. -/
def CellsAt (Γ : Ctx) (w : World) (b o : Nat) (cs : List AV) : Prop :=
  ∀ (j : Nat) (x : AV), cs[j]? = some x → ∃ u, w.cell? ⟨b, o + j, none⟩ = some u ∧ u.oneCell' = true ∧ VR Γ w x u

theorem CellsAt.list {Γ : Ctx} {w : World} {b : Nat} : ∀ {cs : List AV} {o : Nat}, CellsAt Γ w b o cs →
    ∃ us : List Value, us.length = cs.length ∧ (∀ (j : Nat) (u : Value), us[j]? = some u → w.cell? ⟨b, o + j, none⟩ = some u) ∧ (∀ u ∈ us, u.oneCell' = true) ∧
      ∀ (j : Nat) (x : AV) (u : Value), cs[j]? = some x → us[j]? = some u → VR Γ w x u
  | [], o, _ => ⟨[], rfl, by simp, by simp, by simp⟩
  | x :: cs, o, h => by
    obtain ⟨u, h1, h2, h3⟩ := h 0 x rfl
    have h' : CellsAt Γ w b (o + 1) cs := fun j y hy => by
      have := h (j + 1) y (by simpa using hy)
      rwa [show o + (j + 1) = o + 1 + j by omega] at this
    obtain ⟨us, a1, a2, a3, a4⟩ := h'.list
    refine ⟨u :: us, by simp [a1], ?_, ?_, ?_⟩
    · intro j v hv
      cases j with
      | zero => simp at hv; subst hv; simpa using h1
      | succ j => rw [show o + (j + 1) = o + 1 + j by omega]; exact a2 j v (by simpa using hv)
    · intro v hv
      rcases List.mem_cons.1 hv with rfl | hv
      · exact h2
      · exact a3 v hv
    · intro j y v hy hv
      cases j with
      | zero => simp at hy hv; subst hy; subst hv; exact h3
      | succ j => exact a4 j y v (by simpa using hy) (by simpa using hv)

theorem CellsAt.drop {Γ : Ctx} {w : World} {b o : Nat} {cs : List AV} (h : CellsAt Γ w b o cs) (n : Nat) : CellsAt Γ w b (o + n) (cs.drop n) := by
  intro j x hx
  have := h (n + j) x (by simpa [List.getElem?_drop] using hx)
  rwa [show o + (n + j) = o + n + j by omega] at this

theorem CellsAt.take {Γ : Ctx} {w : World} {b o : Nat} {cs : List AV} (h : CellsAt Γ w b o cs) (n : Nat) : CellsAt Γ w b o (cs.take n) := by
  intro j x hx
  rw [List.getElem?_take] at hx
  split at hx
  · exact h j x hx
  · cases hx

theorem addr_add (b o j : Nat) : (⟨b, o, none⟩ : Addr).add j = ⟨b, o + j, none⟩ := by unfold Addr.add; split <;> simp_all

/-- A pointer into memory that is written no more. -/
theorem VR.pp_cells {Γ : Ctx} {w : World} {cs : List AV} {v : Value} (h : VR Γ w (.pp cs) v) : ∃ b o, v = .pointer (some ⟨b, o, none⟩) ∧ (∀ j, j < cs.length → Γ.fixd b (o + j)) ∧ b < w.heap.size ∧ CellsAt Γ w b o cs := by
  cases h with
  | pp cs b o us hb hw h1 h => exact ⟨b, o, rfl, fun j hj => (hw j _ (List.getElem?_eq_getElem hj)).2, hb, fun j x hx => ⟨us j, (hw j x hx).1, h1 j x hx, h j x hx⟩⟩

theorem VR.pp_of {Γ : Ctx} {w : World} {cs : List AV} {b o : Nat} (hb : ∀ j, j < cs.length → Γ.fixd b (o + j)) (hlt : b < w.heap.size) (h : CellsAt Γ w b o cs) : VR Γ w (.pp cs) (.pointer (some ⟨b, o, none⟩)) := by
  obtain ⟨us, h1, h2, h3, h4⟩ := h.list
  have hlen : ∀ j x, cs[j]? = some x → ∃ u, us[j]? = some u := fun j x hx => by
    have : j < us.length := by rw [h1]; exact (List.getElem?_eq_some_iff.1 hx).1
    exact ⟨us[j], List.getElem?_eq_getElem this⟩
  refine .pp cs b o (fun j => us.getD j Go.undef) hlt ?_ ?_ ?_
  · intro j x hx
    obtain ⟨u, hu⟩ := hlen j x hx
    simp only [List.getD, hu, Option.getD_some]
    exact ⟨h2 j u hu, hb j (List.getElem?_eq_some_iff.1 hx).1⟩
  · intro j x hx
    obtain ⟨u, hu⟩ := hlen j x hx
    simp only [List.getD, hu, Option.getD_some]
    exact h3 u (List.mem_of_getElem? hu)
  · intro j x hx
    obtain ⟨u, hu⟩ := hlen j x hx
    simp only [List.getD, hu, Option.getD_some]
    exact h4 j x u hx hu

/-- A pointer into an object of the store. -/
theorem R.rp_cells {E : Env} {Γ : Ctx} {σ : Store} {w : World} (hr : R E Γ σ w) {i g k off : Nat} {v : Value} (h : VR Γ w (.rp i g k off) v) {T : TypeId} {es : List AV} {e : AV}
    (hi : σ.get i = some (.arr T g es)) (hk : es[k]? = some e) :
    ∃ l b, Γ.get i = some l ∧ l.blk = some b ∧ l.gen = g ∧ v = .pointer (some ⟨b, k * l.sz + off, none⟩) ∧ CellsAt Γ w b (k * l.sz + off) (e.cells.drop off) := by
  obtain ⟨l, hl, ho, _⟩ := hr.loc hi
  cases h with
  | rp i g k off a hlt h =>
    simp only [ObjRel] at ho
    obtain ⟨h1, h2, h3, h4, h5, h6⟩ := ho
    obtain ⟨b, hb, rfl⟩ := (h l hl).2 h1
    refine ⟨l, b, hl, hb, h1, rfl, ?_⟩
    simp only [hb] at h6
    obtain ⟨xs, fr, q1, q2, q3, q4⟩ := h6
    refine CellsAt.drop (o := k * l.sz) ?_ off
    intro j x hx
    obtain ⟨u, u1, u2, u3⟩ := q4 k e j x hk hx
    exact ⟨u, by simp [World.cell?, q1, u1], u2, u3⟩

theorem VR.agg_of {Γ : Ctx} {w : World} {cs : List AV} {us : List Value} (h1 : us.length = cs.length) (h3 : ∀ u ∈ us, u.oneCell' = true) (h4 : ∀ (j : Nat) (x : AV) (u : Value), cs[j]? = some x → us[j]? = some u → VR Γ w x u) :
    VR Γ w (.agg cs) (.agg us.toArray) := by
  refine .agg cs _ (by simp [h1]) ?_ ?_
  · intro j x hx
    exact h3 x (List.mem_of_getElem? (by simpa using hx))
  · intro j a x ha hx
    exact h4 j a x ha (by simpa using hx)

/-! ### Loading -/
def aLoadC (P : Program) (t : TypeId) (cs : List AV) (K : AV → Prop) : Prop :=
  tk P t ≠ .other ∧ if (tk P t).agg then tsz P t ≠ 0 ∧ tsz P t ≤ cs.length ∧ K (.agg (cs.take (tsz P t))) else match cs with
    | x :: _ => K x
    | [] => False

theorem aLoadC_ok {P : Program} {Γ : Ctx} {w : World} {t : TypeId} {b o : Nat} {cs : List AV} {K : AV → Prop} (hc : CellsAt Γ w b o cs) (h : aLoadC P t cs K) :
    ∃ v a, (loadVar t ⟨b, o, none⟩).run P w = .ok v w ∧ VR Γ w a v ∧ K a := by
  obtain ⟨ht, h⟩ := h
  have hagg := run_isAgg (P := P) ht w
  split at h
  · rename_i hA
    obtain ⟨h0, hle, hk⟩ := h
    obtain ⟨us, a1, a2, a3, a4⟩ := (hc.take (tsz P t)).list
    have hlen : us.length = tsz P t := by rw [a1, List.length_take]; omega
    have hl := run_loadCells_list (P := P) w ⟨b, o, none⟩ us (fun j v hv => by rw [addr_add]; exact a2 j v hv)
    rw [hlen] at hl
    have hs := run_tsz h0 w
    refine ⟨.agg us.toArray, _, ?_, VR.agg_of a1 a3 a4, hk⟩
    simp [loadVar, hagg, hA, hs, hl]
  · rename_i hA
    cases cs with
    | nil => exact h.elim
    | cons x cs =>
      obtain ⟨u, u1, u2, u3⟩ := hc 0 x rfl
      refine ⟨u, x, ?_, u3, h⟩
      simp only [Nat.add_zero] at u1
      simp [loadVar, hagg, hA, u1]

def aLoad (E : Env) (t : TypeId) (x : AV) (σ : Store) (K : AV → Prop) : Prop :=
  match x with
  | .pp cs => aLoadC E.P t cs K
  | .rp i g k off => match σ.get i with
    | some (.arr _ g' es) => g = g' ∧ match es[k]? with
      | some e => aLoadC E.P t (e.cells.drop off) K
      | none => False
    | _ => False
  | _ => False

theorem aLoad_ok {E : Env} {Γ : Ctx} {σ : Store} {w : World} {t : TypeId} {x : AV} {xv : Value} {K : AV → Store → Prop} (hr : R E Γ σ w) (hx : VR Γ w x xv) (h : aLoad E t x σ fun a => K a σ) :
    Up E Γ w K ((do pure (.value (← Instr.loadAt t xv)) : Sem Next).run E.P w) := by
  unfold aLoad at h
  split at h
  · obtain ⟨b, o, rfl, h1, h2, h3⟩ := hx.pp_cells
    obtain ⟨v, a, r1, r2, r3⟩ := aLoadC_ok h3 h
    simp only [Instr.loadAt, Instr.sureAddr, Sem.run_bind, Sem.run_pure, Result.andThen_ok, r1, Up]
    exact Res.same hr r2 r3
  · rename_i i g k off
    split at h
    · rename_i T g' es hi
      obtain ⟨rfl, h⟩ := h
      split at h
      · rename_i e hk
        obtain ⟨l, b, _, _, _, rfl, hc⟩ := hr.rp_cells hx hi hk
        obtain ⟨v, a, r1, r2, r3⟩ := aLoadC_ok hc h
        simp only [Instr.loadAt, Instr.sureAddr, Sem.run_bind, Sem.run_pure, Result.andThen_ok, r1, Up]
        exact Res.same hr r2 r3
      · exact h.elim
    · exact h.elim
  · exact h.elim
end Go.AW
