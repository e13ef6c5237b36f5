/- What the words, the files and the copies of items are. No condition. -/
import Derived.Test.YtoipkcljmlfobaaDoorC3
set_option linter.unusedVariables false
set_option linter.unusedSimpArgs false
namespace Go.Proofs.YtoipkcljmlfobaaDoor
open Go Go.AW
set_option maxRecDepth 100000
set_option maxHeartbeats 8000000

def wd (it : Item) : List W := if it.1 then bW1 :: it.2.1 ++ [eW1] else it.2.1
def wordsOf (l : List Item) : List W := l.flatMap wd

theorem flat_snoc {α β : Type} (f : α → List β) {l : List α} {i : Nat} {a : α} (h : l[i]? = some a) : (l.take (i + 1)).flatMap f = (l.take i).flatMap f ++ f a := by
  rw [List.take_add_one, h]; simp

theorem flat_le {α β : Type} (f : α → List β) (l : List α) (i : Nat) : ((l.take i).flatMap f).length ≤ (l.flatMap f).length := by
  conv => rhs; rw [← List.take_append_drop i l]
  rw [List.flatMap_append, List.length_append]; omega

/-- What a list of items is read from. -/
def RdItems (σ : Store) (x : AV) (its : List Item) : Prop :=
  x = itemsV its ∨ (x = .nl ∧ its = []) ∨ ∃ o g es lo, x = .rs o g 0 es.length ∧ o < σ.next ∧ σ.get o = some (.arr 36 g es) ∧ ItemsOk lo σ.next σ es its

def RdRow (σ : Store) (T : TypeId) (x : AV) (l : List AV) : Prop := x = .ps l ∨ (x = .nl ∧ l = []) ∨ ∃ j g, x = .rs j g 0 l.length ∧ j < σ.next ∧ σ.get j = some (.arr T g l)

/-- How far apart. -/
theorem le_sum {α β : Type} (f : α → List β) {l : List α} {i : Nat} {a : α} (h : l[i]? = some a) : ((l.take i).flatMap f).length + (f a).length ≤ (l.flatMap f).length := by
  have h1 := flat_le f l (i + 1)
  rw [flat_snoc f h, List.length_append] at h1
  exact h1

theorem Words_own (x0 : AV) (its : List Item) (hlen : its.length ≤ 1000000) (hroom : (wordsOf its).length ≤ 1000000) (σ : Store) (hrd : RdItems σ x0 its) : ACalls E 12 [x0] σ fun r σ' =>
    (∃ g, r = .rs σ.next g 0 (wordsOf its).length ∧ σ'.get σ.next = some (.arr 9 g ((wordsOf its).map str))) ∧ σ.next < σ'.next ∧ ∀ j, j < σ.next → σ'.get j = σ.get j := by
  refine ACalls.enter Tryd.func12 rfl Tryd.ntmps12 Tryd.results12 (by simp) fun hσ => ?_
  refine AW.stepL [] [0] fun K hK => ?_
  simp
  refine hK _ _ ?_; clear hK
  refine AW.stepL [] [0, 3] fun K hK => ?_
  simp
  refine hK _ _ ?_; clear hK
  refine AW.adopt 3 9 (by simp) (by simp) ?_
  refine AW.only [(0, x0), (3, .rs σ.next 0 0 0)] (by simp) (by simp [Knows]) ?_
  refine AW.seqL [3] fun K1 hK1 => ?_
  have start : K1 = K1 := rfl
  refine AW.stepL [] [3, 6, 7, 8] fun K hK => ?_
  have hR2 : K [(3, .rs σ.next 0 0 0), (6, x0), (7, .c (.int .i64 its.length)), (8, .c (.int .i64 0))] (σ.alloc (.arr 9 0 [])) := by
    refine hK _ _ ?_; clear hK
    refine AW.block ?_
    refine AW.loopS (ι := Nat × Nat × Store) (fun x => [(3, .rs σ.next x.2.1 0 (wordsOf (its.take x.1)).length), (6, x0), (7, .c (.int .i64 its.length)), (8, .c (.int .i64 x.1))]) (fun x => x.2.2)
      (fun x => x.1 ≤ its.length ∧ σ.next < x.2.2.next ∧ (∀ j, j < σ.next → x.2.2.get j = σ.get j) ∧ x.2.2.get σ.next = some (.arr 9 x.2.1 ((wordsOf (its.take x.1)).map str))) (fun x => its.length - x.1) (0, 0, _)
      (fun x hx => by have := hx.2.1; omega) ⟨Nat.zero_le _, by simp, fun j hj => by simp [show j ≠ σ.next by omega], by simp [wordsOf]⟩ rfl (by simp [Knows, wordsOf]) ?_
    rintro ⟨i, g, s⟩ ⟨hi, hnx, hsame, hO⟩
    simp only at hi hnx hsame hO ⊢
    refine AW.stepL [] [3, 6, 7, 8, 9] fun K hK => ?_
    simp
    refine hK _ _ ?_; clear hK
    refine AW.seqL [3, 6, 7, 8] fun K2 hK2 => ?_
    refine AW.cond (hb := by simp; rfl) (fun hb => ?_) (fun hb => ?_)
    · simp at hb
      obtain ⟨it, hit⟩ := get_ex hb
      have hltI : (i : Int) < its.length := by omega
      have hsum := le_sum wd hit
      have hsnoc := flat_snoc wd hit
      rw [show List.flatMap wd its = wordsOf its from rfl, show List.flatMap wd (its.take i) = wordsOf (its.take i) from rfl] at hsum
      rw [show List.flatMap wd (its.take (i + 1)) = wordsOf (its.take (i + 1)) from rfl, show List.flatMap wd (its.take i) = wordsOf (its.take i) from rfl] at hsnoc
      have hw1 : IntKind.i64.wrap ((i : Int) + 1) = (i : Int) + 1 := wrap64_id (by omega) (by omega)
      have hsn : ¬ σ.next = s.next := by omega
      refine AW.skip ?_
      simp
      refine hK2 _ _ ?_; clear hK2
      refine AW.seqL [3, 6, 7, 8] fun K3 hK3 => ?_
      refine AW.block ?_
      -- behind the item's words
      have done : ∀ (g' : Nat) (s' : Store), s.next ≤ s'.next → (∀ j, j < σ.next → s'.get j = s.get j) → s'.get σ.next = some (.arr 9 g' ((wordsOf (its.take (i + 1))).map str)) →
          K3 [(3, .rs σ.next g' 0 (wordsOf (its.take (i + 1))).length), (6, x0), (7, .c (.int .i64 its.length)), (8, .c (.int .i64 i))] s' := by
        intro g' s' h1 h2 h3
        refine hK3 _ _ ?_
        refine AW.region (ow := []) ?_
        simp [hw1]
        exact ⟨i + 1, g', s', ⟨by omega, by omega, fun j hj => by rw [h2 j hj, hsame j hj], h3⟩, rfl, by simp [Knows], by omega⟩
      clear hK3
      refine AW.stepL [] [3, 5, 6, 7, 8] fun K hK => ?_
      have hR4 : ∀ fx ax, RdRow σ 9 fx (it.2.1.map str) → K [(3, .rs σ.next g 0 (wordsOf (its.take i)).length), (5, .rp s.next 0 0 0), (6, x0), (7, .c (.int .i64 its.length)), (8, .c (.int .i64 i))] (s.alloc (.arr 36 0 [.agg [.c (.bool it.1), fx, ax]])) := by
        intro fx ax hfx
        refine hK _ _ ?_; clear hK
        refine AW.seqL [3, 5, 6, 7, 8] fun K4 hK4 => ?_
        refine AW.stepL [] [3, 5, 6, 7, 8, 14] fun K hK => ?_
        simp
        refine hK _ _ ?_; clear hK
        refine AW.cond (hb := by simp; exact (Bool.not_not _).symm) (fun hb1 => ?_) (fun hb1 => ?_)
        · have hg : it.1 = false := by simpa using hb1
          have hwd : wd it = it.2.1 := by simp [wd, hg]
          rw [hwd] at hsum hsnoc
          refine AW.stepL [] [3, 6, 7, 8] fun K hK => ?_
          have fin : ∀ (g' : Nat) (s' : Store), s.next ≤ s'.next → (∀ j, j < σ.next → s'.get j = s.get j) → s'.get σ.next = some (.arr 9 g' ((wordsOf (its.take i)).map str ++ it.2.1.map str)) →
              K [(3, .rs σ.next g' 0 ((wordsOf (its.take i)).length + it.2.1.length)), (6, x0), (7, .c (.int .i64 its.length)), (8, .c (.int .i64 i))] s' := by
            intro g' s' h1 h2 h3
            refine hK _ _ ?_
            refine AW.exit ?_
            simp
            have := done g' s' h1 h2 (by rw [h3, hsnoc, List.map_append])
            rw [hsnoc, List.length_append] at this
            simpa using this
          rcases hfx with rfl | ⟨rfl, hf⟩ | ⟨j, gj, rfl, hj1, hj2⟩
          · simp [hO, hsn]
            refine ⟨by omega, by simp [maxLen]; omega, fin _ _ (by simp) (fun j hj => by simp [show j ≠ σ.next by omega, show j ≠ s.next by omega]) (by simp)⟩
          · have hf' : it.2.1 = [] := by simpa using hf
            simp [hO, hsn]
            have := fin (g + 1) ((s.alloc (.arr 36 0 [.agg [.c (.bool it.1), .nl, ax]])).set σ.next (.arr 9 (g + 1) ((wordsOf (its.take i)).map str))) (by simp) (fun j hj => by simp [show j ≠ σ.next by omega, show j ≠ s.next by omega]) (by simp [hf'])
            simp [hf'] at this
            refine ⟨by omega, by simp [maxLen]; omega, this⟩
          · have hj3 : ¬ j = s.next := by omega
            have hj4 : s.get j = some (.arr 9 gj (it.2.1.map str)) := by rw [hsame j hj1]; exact hj2
            simp [hO, hsn, hj3, hj4]
            refine ⟨by omega, by simp [maxLen]; omega, fin _ _ (by simp) (fun j hj => by simp [show j ≠ σ.next by omega, show j ≠ s.next by omega]) (by simp)⟩
        · have hg : it.1 = true := by simpa using hb1
          have hwd : wd it = bW1 :: it.2.1 ++ [eW1] := by simp [wd, hg]
          rw [hwd] at hsum hsnoc
          simp at hsum
          refine AW.skip ?_
          simp
          refine hK4 _ _ ?_; clear hK4
          refine AW.drawE [] [.q [0], .q [0], .q [0], .q [0], .q [0], .e, .q [0, 6], .q [0, 6], .e, .q [0, 6, 9], .q [0, 6, 9], .q [0, 6, 9], .q [0, 6, 9], .e, .q [14]] (by kernel_rfl) (by kernel_rfl) ?_
          have hsn' : ¬ s.next = σ.next := fun e => hsn e.symm
          have fin : ∀ (g' n' : Nat) (s' : Store), n' = (wordsOf (its.take i)).length + 1 + it.2.1.length + 1 → s.next ≤ s'.next → (∀ j, j < σ.next → s'.get j = s.get j) → s'.get σ.next = some (.arr 9 g' ((wordsOf (its.take i)).map str ++ str bW1 :: (it.2.1.map str ++ [str eW1]))) →
              K3 [(3, .rs σ.next g' 0 n'), (6, x0), (7, .c (.int .i64 its.length)), (8, .c (.int .i64 i))] s' := by
            intro g' n' s' h0 h1 h2 h3
            have := done g' s' h1 h2 (by rw [h3, hsnoc]; simp)
            rw [hsnoc] at this
            simp only [List.length_append, List.length_cons, List.length_nil, List.cons_append] at this
            rw [show n' = (wordsOf (its.take i)).length + (it.2.1.length + (0 + 1) + 1) by omega]
            exact this
          rcases hfx with rfl | ⟨rfl, hf⟩ | ⟨j, gj, rfl, hj1, hj2⟩
          · simp [hO, hsn, hsn']
            refine ⟨by omega, by simp [maxLen]; omega, by omega, by simp [maxLen]; omega, by omega, by omega, by simp [maxLen]; omega, fin _ _ _ (by omega) (by simp) (fun j hj => by simp [show j ≠ σ.next by omega, show j ≠ s.next by omega]) (by simp)⟩
          · have hf' : it.2.1 = [] := by simpa using hf
            simp [hf'] at hsum fin
            simp [hO, hsn, hsn', hf']
            refine ⟨by omega, by simp [maxLen]; omega, by omega, by simp [maxLen]; omega, by omega, by simp [maxLen]; omega, fin _ _ _ (by omega) (by simp) (fun j hj => by simp [show j ≠ σ.next by omega, show j ≠ s.next by omega]) (by simp)⟩
          · have hj3 : ¬ j = s.next := by omega
            have hj5 : ¬ j = σ.next := by omega
            have hj4 : s.get j = some (.arr 9 gj (it.2.1.map str)) := by rw [hsame j hj1]; exact hj2
            simp [hO, hsn, hsn', hj3, hj4, hj5]
            refine ⟨by omega, by simp [maxLen]; omega, by omega, by simp [maxLen]; omega, by omega, by omega, by simp [maxLen]; omega, fin _ _ _ (by omega) (by simp) (fun j hj => by simp [show j ≠ σ.next by omega, show j ≠ s.next by omega]) (by simp)⟩
      rcases hrd with rfl | ⟨rfl, hr⟩ | ⟨o, go, es, lo, rfl, ho1, ho2, hits⟩
      · have hit' : (its.map itemV)[i]? = some (itemV it) := by simp [hit]
        have h4 := hR4 (strs it.2.1) (ints it.2.2) (.inl rfl)
        simp [hit, hltI, itemV]
        simpa using h4
      · subst hr; simp at hit
      · have hl := hits.length
        obtain ⟨e, he⟩ := get_ex (l := es) (i := i) (by omega)
        obtain ⟨fx, ax, rfl, hf, _⟩ := hits.get i e it he hit
        have hlt2 : (i : Int) < es.length := by omega
        have ho3 : s.get o = some (.arr 36 go es) := by rw [hsame o ho1]; exact ho2
        have h4 := hR4 fx ax (by
          rcases hf with hf | ⟨j, gj, h1, h2, h3, h4⟩
          · exact .inr (.inl hf)
          · exact .inr (.inr ⟨j, gj, by simpa using h1, h3, h4⟩))
        simp [hlt2, ho3, he]
        simpa using h4
    · simp at hb
      have hie : i = its.length := by omega
      rw [hie, List.take_length] at hO
      refine AW.exit ?_
      simp
      refine hK1 _ _ ?_; clear hK1
      refine AW.stepL [] [2] fun K hK => ?_
      simp
      refine hK _ _ ?_; clear hK
      refine AW.ret ?_
      simp
      refine Fin.same (by omega) ⟨⟨g, by rw [hie, List.take_length], hO⟩, hnx, hsame⟩
  rcases hrd with rfl | ⟨rfl, hr⟩ | ⟨o, go, es, lo, rfl, ho1, ho2, hits⟩
  · simp
    simpa using hR2
  · subst hr
    simp
    simpa using hR2
  · have hl := hits.length
    simp
    rw [← hl] at hR2
    simpa using hR2
end Go.Proofs.YtoipkcljmlfobaaDoor
