/- The copies of items, their words and files in the reference, and their comparison. No condition. -/
import Derived.Test.YtoipkcljmlfobaaDoorC4
set_option linter.unusedVariables false
set_option linter.unusedSimpArgs false
namespace Go.Proofs.YtoipkcljmlfobaaDoor
open Go Go.AW
set_option maxRecDepth 100000
set_option maxHeartbeats 8000000

theorem fin_row {σ s1 : Store} (hσ : StoreBel σ) (hle : σ.next ≤ s1.next) (hsame : ∀ j, j < σ.next → s1.get j = σ.get j) {g : Nat} {T : TypeId} {es : List AV} (hO : s1.get σ.next = some (.arr T g es)) (hb : Bel σ.next (.ps es)) {n : Nat} (hn : n = es.length) {Q : AV → Store → Prop} (h : Q (.ps es) σ) :
    Fin σ.next s1 (.rs σ.next g 0 n) Q := by
  subst hn
  exact Fin.back hσ hle (fun i o ho => by rw [hsame i (hσ i o ho).1]; exact ho) (SR.row hO (none_next hσ (Nat.le_refl _)) (by simp) (by simp)) hb h

theorem Words_c (its : List Item) (hlen : its.length ≤ 1000000) (hroom : (wordsOf its).length ≤ 1000000) (σ : Store) : ACalls E 12 [itemsV its] σ fun r σ' => r = strs (wordsOf its) ∧ σ' = σ := by
  refine (Words_own _ its hlen hroom σ (.inl rfl)).fin ?_
  rintro hσ a σ' ⟨⟨g, rfl, hO⟩, hle, hsame⟩
  exact fin_row hσ (by omega) hsame hO (bel_strs _ _) (by simp) ⟨rfl, rfl⟩

def filesOf (l : List Item) : List W := l.flatMap (·.2.1)
/-- The first items as values. -/
def preV (its : List Item) (i : Nat) : List AV := (its.take i).map itemV
theorem preV_snoc {its : List Item} {i : Nat} {it : Item} (h : its[i]? = some it) : preV its (i + 1) = preV its i ++ [itemV it] := by
  unfold preV; rw [List.take_add_one, h]; simp
theorem preV_all (its : List Item) : preV its its.length = its.map itemV := by unfold preV; rw [List.take_length]
theorem preV_len {its : List Item} {i : Nat} (h : i ≤ its.length) : (preV its i).length = i := by unfold preV; simp; omega

theorem Files_c (its : List Item) (hlen : its.length ≤ 1000000) (hroom : (filesOf its).length ≤ 1000000) (σ : Store) : ACalls E 17 [itemsV its] σ fun r σ' => r = strs (filesOf its) ∧ σ' = σ := by
  refine ACalls.enter Tryd.func17 rfl Tryd.ntmps17 Tryd.results17 (by simp) fun hσ => ?_
  refine AW.stepL [] [0] fun K hK => ?_
  simp
  refine hK _ _ ?_; clear hK
  refine AW.stepL [] [0, 3] fun K hK => ?_
  simp
  refine hK _ _ ?_; clear hK
  refine AW.adopt 3 9 (by simp) (by simp) ?_
  refine AW.only [(0, itemsV its), (3, .rs σ.next 0 0 0)] (by simp) (by simp [Knows]) ?_
  refine AW.seqL [3] fun K1 hK1 => ?_
  refine AW.stepL [] [3, 6, 7, 8] fun K hK => ?_
  simp
  refine hK _ _ ?_; clear hK
  refine AW.block ?_
  refine AW.loopS (ι := Nat × Nat × Store) (fun x => [(3, .rs σ.next x.2.1 0 (filesOf (its.take x.1)).length), (6, itemsV its), (7, .c (.int .i64 its.length)), (8, .c (.int .i64 x.1))]) (fun x => x.2.2)
      (fun x => x.1 ≤ its.length ∧ σ.next < x.2.2.next ∧ (∀ j, j < σ.next → x.2.2.get j = σ.get j) ∧ x.2.2.get σ.next = some (.arr 9 x.2.1 ((filesOf (its.take x.1)).map str))) (fun x => its.length - x.1) (0, 0, _)
      (fun x hx => by have := hx.2.1; omega) ⟨Nat.zero_le _, by simp, fun j hj => by simp [show j ≠ σ.next by omega], by simp [filesOf]⟩ rfl (by simp [Knows, filesOf]) ?_
  rintro ⟨i, g, s⟩ ⟨hi, hnx, hsame, hO⟩
  simp only at hi hnx hsame hO ⊢
  refine AW.stepL [] [3, 6, 7, 8, 9] fun K hK => ?_
  simp
  refine hK _ _ ?_; clear hK
  refine AW.seqL [3, 6, 7, 8] fun K2 hK2 => ?_
  refine AW.cond (hb := by simp; rfl) (fun hb => ?_) (fun hb => ?_)
  · simp at hb
    obtain ⟨it, hit⟩ := get_ex hb
    have hltI : (i : Int) < its.length := by omega
    have hsum := le_sum (fun x : Item => x.2.1) hit
    have hsnoc := flat_snoc (fun x : Item => x.2.1) hit
    have hw1 : IntKind.i64.wrap ((i : Int) + 1) = (i : Int) + 1 := wrap64_id (by omega) (by omega)
    have hsn : ¬ σ.next = s.next := by omega
    rw [show List.flatMap (fun x : Item => x.2.1) its = filesOf its from rfl, show List.flatMap (fun x : Item => x.2.1) (its.take i) = filesOf (its.take i) from rfl] at hsum
    rw [show List.flatMap (fun x : Item => x.2.1) (its.take (i + 1)) = filesOf (its.take (i + 1)) from rfl, show List.flatMap (fun x : Item => x.2.1) (its.take i) = filesOf (its.take i) from rfl] at hsnoc
    refine AW.skip ?_
    simp
    refine hK2 _ _ ?_; clear hK2
    refine AW.seqL [3, 6, 7, 8] fun K3 hK3 => ?_
    refine AW.block ?_
    refine AW.stepL [] [3, 5, 6, 7, 8] fun K hK => ?_
    simp [hit, hltI, itemV]
    refine hK _ _ ?_; clear hK
    refine AW.region (ow := []) ?_
    simp [hO, hsn]
    refine ⟨by omega, by simp [maxLen]; omega, ?_⟩
    refine hK3 _ _ ?_; clear hK3
    refine AW.region (ow := []) ?_
    simp [hw1]
    refine ⟨i + 1, g + 1, _, ⟨by omega, by simp; omega, fun j hj => by simp [show j ≠ σ.next by omega, show j ≠ s.next by omega]; exact hsame j hj, by simp only [hsnoc]; simp⟩, rfl, by simp only [hsnoc]; simp [Knows], by omega⟩
  · simp at hb
    have hie : i = its.length := by omega
    refine AW.exit ?_
    simp
    refine hK1 _ _ ?_; clear hK1
    refine AW.stepL [] [2] fun K hK => ?_
    simp
    refine hK _ _ ?_; clear hK
    refine AW.ret ?_
    simp
    rw [hie, List.take_length] at hO ⊢
    exact fin_row hσ (by omega) hsame hO (bel_strs _ _) (by simp) ⟨rfl, rfl⟩

theorem items_own (its : List Item) (hlen : its.length ≤ 1000000) (σ : Store) : ACalls E 11 [itemsV its] σ fun r σ' => (∃ g, r = .rs σ.next g 0 its.length ∧ σ'.get σ.next = some (.arr 39 g (its.map itemV))) ∧ σ.next < σ'.next ∧ ∀ j, j < σ.next → σ'.get j = σ.get j := by
  refine ACalls.enter Tryd.func11 rfl Tryd.ntmps11 Tryd.results11 (by simp) fun hσ => ?_
  refine AW.stepL [] [0] fun K hK => ?_
  simp
  refine hK _ _ ?_; clear hK
  refine AW.stepL [] [0, 3] fun K hK => ?_
  simp
  refine hK _ _ ?_; clear hK
  refine AW.adopt 3 39 (by simp) (by simp) ?_
  refine AW.only [(0, itemsV its), (3, .rs σ.next 0 0 0)] (by simp) (by simp [Knows]) ?_
  refine AW.seqL [3] fun K1 hK1 => ?_
  refine AW.stepL [] [0, 3, 4] fun K hK => ?_
  simp
  refine hK _ _ ?_; clear hK
  refine AW.block ?_
  refine AW.loopS (ι := Nat × Nat × Store) (fun x => [(0, itemsV its), (3, .rs σ.next x.2.1 0 x.1), (4, .c (.int .i64 x.1))]) (fun x => x.2.2)
      (fun x => x.1 ≤ its.length ∧ σ.next < x.2.2.next ∧ (∀ j, j < σ.next → x.2.2.get j = σ.get j) ∧ x.2.2.get σ.next = some (.arr 39 x.2.1 (preV its x.1))) (fun x => its.length - x.1) (0, 0, _)
      (fun x hx => by have := hx.2.1; omega) ⟨Nat.zero_le _, by simp, fun j hj => by simp [show j ≠ σ.next by omega], by simp [preV]⟩ rfl (by simp [Knows]) ?_
  rintro ⟨i, g, s⟩ ⟨hi, hnx, hsame, hO⟩
  simp only at hi hnx hsame hO ⊢
  refine AW.seqL [0, 3, 4] fun K2 hK2 => ?_
  refine AW.stepL [] [0, 3, 4, 8] fun K hK => ?_
  simp
  refine hK _ _ ?_; clear hK
  refine AW.cond (hb := by simp; rfl) (fun hb => ?_) (fun hb => ?_)
  · simp at hb
    obtain ⟨it, hit⟩ := get_ex hb
    have hltI : (i : Int) < its.length := by omega
    have hsnoc := preV_snoc hit
    have hacl := preV_len (its := its) (i := i) (by omega)
    have hw1 : IntKind.i64.wrap ((i : Int) + 1) = (i : Int) + 1 := wrap64_id (by omega) (by omega)
    refine AW.skip ?_
    simp
    refine hK2 _ _ ?_; clear hK2
    refine AW.seqL [0, 3, 4] fun K3 hK3 => ?_
    refine AW.block ?_
    refine AW.drawE [] [.q [0], .q [0], .q [0], .q [0], .q [0], .q [0], .q [0], .q [0], .q [0], .q [0], .q [0], .q [0], .q [0], .q [0], .q [0], .q [0], .q [0], .q [0], .e, .q [19]] (by kernel_rfl) (by kernel_rfl) ?_
    simp [hO, hit, hltI, itemV, hacl]
    refine ⟨by omega, by simp [maxLen]; omega, ?_⟩
    refine hK3 _ _ ?_; clear hK3
    refine AW.region (ow := []) ?_
    simp [hw1]
    refine ⟨i + 1, g + 1, _, ⟨by omega, by simpa using hnx, fun j hj => by simp [show j ≠ σ.next by omega]; exact hsame j hj, ?_⟩, rfl, by simp [Knows], by omega⟩
    simp only [hsnoc]; simp [itemV]
  · simp at hb
    have hie : i = its.length := by omega
    refine AW.exit ?_
    simp
    refine hK1 _ _ ?_; clear hK1
    refine AW.stepL [] [2] fun K hK => ?_
    simp
    refine hK _ _ ?_; clear hK
    refine AW.ret ?_
    simp
    rw [hie, preV_all] at hO
    rw [hie]
    exact Fin.same (by omega) ⟨⟨g, rfl, hO⟩, hnx, hsame⟩

theorem items_c (its : List Item) (hlen : its.length ≤ 1000000) (σ : Store) : ACalls E 11 [itemsV its] σ fun r σ' => r = itemsV its ∧ σ' = σ := by
  refine (items_own its hlen σ).fin ?_
  rintro hσ a σ' ⟨⟨g, rfl, hO⟩, hle, hsame⟩
  exact fin_row hσ (by omega) hsame hO (bel_itemsV _ _) (by simp) ⟨rfl, rfl⟩

theorem seal_len {es : List AV} {e e' : AV} (hc : e'.cells.length = e.cells.length) : ∀ (k : Nat) (a a' : AV), (es ++ [e])[k]? = some a → (es ++ [e'])[k]? = some a' → a'.cells.length = a.cells.length := by
  intro k a a' h1 h2
  rw [List.getElem?_append] at h1 h2
  split at h1
  · rename_i h; rw [if_pos h] at h2; rw [h1] at h2; cases h2; rfl
  · rename_i h; rw [if_neg h] at h2
    cases hk : k - es.length with
    | zero => rw [hk] at h1 h2; cases h1; cases h2; exact hc
    | succ m => rw [hk] at h1; simp at h1

theorem seal_sr {σ σ2 : Store} {es : List AV} {e e' : AV} (hv : ∀ (j : Nat) (x y : AV), e.cells[j]? = some x → e'.cells[j]? = some y → SR σ σ2 x y) : ∀ (k : Nat) (a a' : AV) (j : Nat) (x y : AV), (es ++ [e])[k]? = some a → (es ++ [e'])[k]? = some a' → a.cells[j]? = some x → a'.cells[j]? = some y → SR σ σ2 x y := by
  intro k a a' j x y h1 h2 h3 h4
  rw [List.getElem?_append] at h1 h2
  split at h1
  · rename_i h; rw [if_pos h] at h2; rw [h1] at h2; cases h2; rw [h3] at h4; cases h4; exact .refl _
  · rename_i h; rw [if_neg h] at h2
    cases hk : k - es.length with
    | zero => rw [hk] at h1 h2; cases h1; cases h2; exact hv j x y h3 h4
    | succ m => rw [hk] at h1; simp at h1

theorem fr_far {l : List (Nat × AV)} {N : Nat} (h : ∀ p ∈ l, p.1 < N) : ∀ t, N ≤ t → fr l t = .junk := by
  intro t ht
  rcases fr_cases l t with e | ⟨p, h1, h2, h3⟩
  · exact e
  · have := h p h1; omega

/-- The store without its objects from n on, but for one. -/
def Store.upto (σ : Store) (n : Nat) : Store := ⟨fun k => if n < k then none else σ.get k, σ.next⟩
@[simp] theorem upto_get (σ : Store) (n k : Nat) : (Store.upto σ n).get k = if n < k then none else σ.get k := rfl
@[simp] theorem upto_next (σ : Store) (n : Nat) : (Store.upto σ n).next = σ.next := rfl
theorem upto_sub (σ : Store) (n : Nat) : Store.sub (Store.upto σ n) σ := ⟨rfl, fun i o h => by
  simp only [upto_get] at h
  split at h
  · cases h
  · exact h⟩

theorem back_c (its : List Item) (hlen : its.length ≤ 1000000) (hroom : ∀ it ∈ its, it.2.1.length ≤ 1048576 ∧ it.2.2.length ≤ 1048576) (σ : Store) : ACalls E 15 [itemsV its] σ fun r σ' => r = itemsV its ∧ σ' = σ := by
  refine ACalls.enter Tryd.func15 rfl Tryd.ntmps15 Tryd.results15 (by simp) fun hσ => ?_
  refine AW.stepL [] [0] fun K hK => ?_
  simp
  refine hK _ _ ?_; clear hK
  refine AW.stepL [] [0, 3] fun K hK => ?_
  simp
  refine hK _ _ ?_; clear hK
  refine AW.adopt 3 36 (by simp) (by simp) ?_
  refine AW.only [(0, itemsV its), (3, .rs σ.next 0 0 0)] (by simp) (by simp [Knows]) ?_
  refine AW.seqL [3] fun K1 hK1 => ?_
  refine AW.stepL [] [0, 3, 4] fun K hK => ?_
  simp
  refine hK _ _ ?_; clear hK
  refine AW.block ?_
  refine AW.loopS (ι := Nat × Nat × Store) (fun x => [(0, itemsV its), (3, .rs σ.next x.2.1 0 x.1), (4, .c (.int .i64 x.1))]) (fun x => x.2.2)
      (fun x => x.1 ≤ its.length ∧ σ.next < x.2.2.next ∧ (∀ j, j < σ.next → x.2.2.get j = σ.get j) ∧ x.2.2.get σ.next = some (.arr 36 x.2.1 (preV its x.1))) (fun x => its.length - x.1) (0, 0, _)
      (fun x hx => by have := hx.2.1; omega) ⟨Nat.zero_le _, by simp, fun j hj => by simp [show j ≠ σ.next by omega], by simp [preV]⟩ rfl (by simp [Knows]) ?_
  rintro ⟨i, g, s⟩ ⟨hi, hnx, hsame, hO⟩
  simp only at hi hnx hsame hO ⊢
  refine AW.seqL [0, 3, 4] fun K2 hK2 => ?_
  refine AW.stepL [] [0, 3, 4, 8] fun K hK => ?_
  simp
  refine hK _ _ ?_; clear hK
  refine AW.cond (hb := by simp; rfl) (fun hb => ?_) (fun hb => ?_)
  · simp at hb
    obtain ⟨it, hit⟩ := get_ex hb
    obtain ⟨r1, r2⟩ := hroom it (List.mem_of_getElem? hit)
    have hltI : (i : Int) < its.length := by omega
    have hsnoc := preV_snoc hit
    have hacl := preV_len (its := its) (i := i) (by omega)
    have hw1 : IntKind.i64.wrap ((i : Int) + 1) = (i : Int) + 1 := wrap64_id (by omega) (by omega)
    have hsn : ¬ σ.next = s.next := by omega
    have hsn2 : ¬ σ.next = s.next + 1 := by omega
    refine AW.skip ?_
    simp
    refine hK2 _ _ ?_; clear hK2
    refine AW.seqL [0, 3, 4] fun K3 hK3 => ?_
    refine AW.block ?_
    refine AW.drawE [] [.q [0, 13, 20], .q [0, 13, 20], .q [0, 13, 20], .q [0, 13, 20], .q [0, 13, 20], .q [0, 13, 20], .q [0], .q [0], .q [0], .q [0], .q [0], .q [0], .e, .q [0, 13], .q [0, 13], .q [0, 13], .q [0, 13], .q [0, 13], .q [0, 13], .e, .q [20], .q [20], .e, .q [23]] (by kernel_rfl) (by kernel_rfl) ?_
    obtain ⟨b, fs, ns⟩ := it
    simp only at r1 r2
    have done : ∀ (s' : Store) (fx ax : AV), s.next ≤ s'.next → (∀ j, j < σ.next → s'.get j = σ.get j) → s'.get σ.next = some (.arr 36 (g + 1) (preV its i ++ [.agg [.c (.bool b), fx, ax]])) → SR s' (Store.upto s' σ.next) fx (strs fs) → SR s' (Store.upto s' σ.next) ax (ints ns) →
        K3 [(0, itemsV its), (3, .rs σ.next (g + 1) 0 (i + 1)), (4, .c (.int .i64 i))] s' := by
      intro s' fx ax h1 h2 h3 h4 h5
      refine hK3 _ _ ?_
      refine AW.sealCell (fr [(0, itemsV its), (3, .rs σ.next (g + 1) 0 (i + 1)), (4, .c (.int .i64 i))]) (Store.upto s' σ.next) (p := σ.next) (T := 36) (g := g + 1) (es := preV its i ++ [.agg [.c (.bool b), fx, ax]]) (es' := preV its i ++ [itemV (b, fs, ns)]) (upto_sub _ _) (by simpa using h3) (by simp) (seal_len rfl) (seal_sr ?_) (fun t _ => .refl _) (fr_far (by simp)) ?_
      · intro j x y g1 g2
        match j, g1, g2 with
        | 0, g1, g2 => cases g1; cases g2; exact .refl _
        | 1, g1, g2 => cases g1; cases g2; exact h4
        | 2, g1, g2 => cases g1; cases g2; exact h5
      · refine AW.region (ow := []) ?_
        simp [hw1]
        refine ⟨i + 1, g + 1, _, ⟨by omega, by simp; omega, fun j hj => by simp [show j ≠ σ.next by omega, show ¬ σ.next < j by omega]; exact h2 j hj, ?_⟩, rfl, by simp [Knows], by omega⟩
        simp only [hsnoc]; simp
    clear hK3
    have hnn : ∀ s' : Store, SR s' (Store.upto s' σ.next) .nl (strs []) := fun s' => .nl
    have hnn' : ∀ s' : Store, SR s' (Store.upto s' σ.next) .nl (ints []) := fun s' => .nl
    simp [hO, hit, hltI, itemV, hacl]
    refine ⟨by omega, by simp [maxLen]; omega, ?_⟩
    by_cases hf : fs = [] <;> by_cases hn : ns = [] <;> simp [hf, hn, hsn, hsn2, hacl]
    · subst hf; subst hn
      refine ⟨by omega, by simp [maxLen]; omega, ?_⟩
      exact done _ .nl .nl (by simp) (fun j hj => by simp [show j ≠ σ.next by omega]; exact hsame j hj) (by simp) .nl .nl
    · subst hf
      refine ⟨by omega, by simp [maxLen]; omega, by omega, by simp [maxLen]; omega, ?_⟩
      refine done _ .nl (.rs s.next 0 0 ns.length) (by simp) (fun j hj => by simp [show j ≠ σ.next by omega, show j ≠ s.next by omega]; exact hsame j hj) (by simp) .nl ?_
      exact SR.row (T := 3) (es := ns.map intV) (by simp [Ne.symm hsn]) (by simp [hnx]) (by simp) (by simp)
    · subst hn
      refine ⟨by omega, by simp [maxLen]; omega, ?_⟩
      refine done _ (.rs s.next 0 0 fs.length) .nl (by simp) (fun j hj => by simp [show j ≠ σ.next by omega, show j ≠ s.next by omega]; exact hsame j hj) (by simp) ?_ .nl
      exact SR.row (T := 9) (es := fs.map str) (by simp [Ne.symm hsn]) (by simp [hnx]) (by simp) (by simp)
    · refine ⟨by omega, by simp [maxLen]; omega, by omega, by simp [maxLen]; omega, ?_⟩
      refine done _ (.rs s.next 0 0 fs.length) (.rs (s.next + 1) 0 0 ns.length) (by simp; omega) (fun j hj => by simp [show j ≠ σ.next by omega, show j ≠ s.next by omega, show j ≠ s.next + 1 by omega]; exact hsame j hj) (by simp) ?_ ?_
      · exact SR.row (T := 9) (es := fs.map str) (by simp [Ne.symm hsn]) (by simp [hnx]) (by simp) (by simp)
      · exact SR.row (T := 3) (es := ns.map intV) (by simp [Ne.symm hsn2]) (by simp; omega) (by simp) (by simp)
  · simp at hb
    have hie : i = its.length := by omega
    refine AW.exit ?_
    simp
    refine hK1 _ _ ?_; clear hK1
    refine AW.stepL [] [2] fun K hK => ?_
    simp
    refine hK _ _ ?_; clear hK
    refine AW.ret ?_
    simp
    rw [hie, preV_all] at hO
    rw [hie]
    exact fin_row hσ (by omega) hsame hO (bel_itemsV _ _) (by simp) ⟨rfl, rfl⟩
end Go.Proofs.YtoipkcljmlfobaaDoor
