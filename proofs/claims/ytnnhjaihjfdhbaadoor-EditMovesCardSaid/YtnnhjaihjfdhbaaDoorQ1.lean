/- What edits of a list do to what is found in it. No condition, no program. -/
import Derived.Test.YtnnhjaihjfdhbaaDoorL1
set_option linter.unusedVariables false
set_option linter.unusedSimpArgs false
set_option linter.unnecessarySimpa false
namespace Go.Proofs.YtnnhjaihjfdhbaaDoor
open Go Go.AW
set_option maxRecDepth 100000

theorem findI_spec {w : W} : ∀ {l : List M} {i : Nat}, findI l w = i → i < l.length ∧ (∀ x ∈ l.take i, x.name ≠ w) ∧ (l.getD i default).name = w
  | [], i, h => by simp [findI] at h
  | m :: l, i, h => by
    simp only [findI] at h
    split at h
    · rename_i hm
      obtain rfl : i = 0 := by omega
      simp [hm]
    · rename_i hm
      split at h
      · omega
      · match i, h with
        | 0, h => omega
        | i + 1, h =>
          obtain ⟨h1, h2, h3⟩ := findI_spec (w := w) (l := l) (i := i) (by omega)
          refine ⟨by simp; omega, fun x hx => ?_, by simpa using h3⟩
          simp at hx
          rcases hx with rfl | hx
          · exact hm
          · exact h2 x hx
theorem findI_neg {w : W} : ∀ {l : List M}, findI l w < 0 → ∀ x ∈ l, x.name ≠ w
  | [], _, x, hx => by simp at hx
  | m :: l, h, x, hx => by
    simp only [findI] at h
    split at h
    · omega
    · rename_i hm
      split at h
      · rename_i h2
        simp at hx
        rcases hx with rfl | hx
        · exact hm
        · exact findI_neg h2 x hx
      · omega
theorem len_ins (l : List M) (k : Nat) (m : M) : (insL l k m).length = l.length + 1 := by simp [insL]; omega
theorem get_ins {l : List M} {k : Nat} {m : M} (h : k ≤ l.length) : (insL l k m)[k]? = some m := by
  simp [insL, List.getElem?_append, Nat.min_eq_left h]
theorem erase_ins {l : List M} {k : Nat} {m : M} (h : k ≤ l.length) : (insL l k m).eraseIdx k = l := by
  simp [insL, List.eraseIdx_append, Nat.min_eq_left h]
theorem find_ins {l : List M} {k : Nat} {m : M} (h : k ≤ l.length) (hn : ∀ x ∈ l.take k, x.name ≠ m.name) : findI (insL l k m) m.name = k := by
  refine findI_at (i := k) (by rw [len_ins]; omega) (fun x hx => hn x ?_) ?_
  · simpa [insL, List.take_append, Nat.min_eq_left h] using hx
  · have := get_ins (m := m) h
    rw [List.getElem?_eq_getElem (by rw [len_ins]; omega)] at this
    rw [Option.some.inj this]
theorem ins_erase {l : List M} {k : Nat} (h : k < l.length) : insL (l.eraseIdx k) k (l.getD k default) = l := by
  have : l.eraseIdx k = l.take k ++ l.drop (k + 1) := List.eraseIdx_eq_take_drop_succ ..
  simp [insL, this, Nat.min_eq_left (Nat.le_of_lt h), List.take_append, List.drop_append, h]
/-- What a replacement does. -/
theorem repl_ok {l : List M} {m : M} {p : Pl} (h : (replR l m p).2 = 0) : ∃ (b : List M) (k : Nat), k ≤ b.length ∧ (replR l m p).1 = insL b k m ∧ (∀ x ∈ b.take k, x.name ≠ m.name) ∧
    (0 ≤ findI l m.name ∧ findI l m.name = k ∧ b = l.eraseIdx k ∧ k < l.length ∨ findI l m.name < 0 ∧ b = l ∧ k = (placeI l p).1.toNat ∧ (placeI l p).2 = 0) := by
  unfold replR at h ⊢
  split
  · rename_i hp; simp [hp] at h
  · rename_i hp
    have hp' : (placeI l p).2 = 0 := by omega
    split
    · rename_i hf
      obtain ⟨i, hi⟩ := nat_of hf
      obtain ⟨h1, h2, h3⟩ := findI_spec hi
      refine ⟨l.eraseIdx i, i, by rw [List.length_eraseIdx]; split <;> omega, by simp [hi], fun x hx => h2 x ?_, .inl ⟨hf, hi, rfl, h1⟩⟩
      rw [List.eraseIdx_eq_take_drop_succ] at hx
      simpa [List.take_append, Nat.min_eq_left (Nat.le_of_lt h1)] using hx
    · rename_i hf
      have hle := placeI_le l p
      exact ⟨l, _, by omega, rfl, fun x hx => findI_neg (by omega) x (List.mem_of_mem_take hx), .inr ⟨by omega, rfl, rfl, hp'⟩⟩
theorem repl_err {l : List M} {m : M} {p : Pl} (h : (replR l m p).2 ≠ 0) : (replR l m p).1 = l := by
  unfold replR at h ⊢
  split
  · rfl
  · rename_i hp
    rw [if_neg hp] at h
    split at h <;> simp at h
theorem del_ins {l : List M} {k : Nat} {m : M} (h : k ≤ l.length) (hn : ∀ x ∈ l.take k, x.name ≠ m.name) : delR (insL l k m) m.name = (l, 0) := by
  have := find_ins (m := m) h hn
  simp only [delR, this]
  rw [if_neg (by omega)]
  simp [erase_ins h]
end Go.Proofs.YtnnhjaihjfdhbaaDoor
