/- The reference's edits, and those of the program that read only. No condition. -/
import Derived.Test.YtnnhjaihjfdhbaaDoorP1
set_option linter.unusedVariables false
set_option linter.unusedSimpArgs false
set_option linter.unnecessarySimpa false
namespace Go.Proofs.YtnnhjaihjfdhbaaDoor
open Go Go.AW
set_option maxRecDepth 100000
set_option maxHeartbeats 8000000

theorem bel_mems (l : List M) (k : Nat) : Bel k (memsV l) := by simp
@[simp] theorem nat_lt0 (i : Nat) : ((i : Int) < 0) = False := by simp
/-- A list and an error. -/
def resV (x : List M × Int) : AV := .tup [memsV x.1, intV x.2]
attribute [simp] resV
def replR (l : List M) (m : M) (p : Pl) : List M × Int :=
  if (placeI l p).2 ≠ 0 then (l, (placeI l p).2) else if 0 ≤ findI l m.name then (insL (l.eraseIdx (findI l m.name).toNat) (findI l m.name).toNat m, 0) else (insL l (placeI l p).1.toNat m, 0)
def delR (l : List M) (w : W) : List M × Int := if findI l w < 0 then (l, 10) else (l.eraseIdx (findI l w).toNat, 0)
def movR (l : List M) (w : W) (p : Pl) : List M × Int :=
  if p.1 < 0 ∨ 2 < p.1 then (l, 13) else if findI l w < 0 then (l, 10) else
  let r := l.eraseIdx (findI l w).toNat
  if (placeI r p).2 ≠ 0 then (l, (placeI r p).2) else (insL r (placeI r p).1.toNat (l.getD (findI l w).toNat default), 0)
theorem placeI_le (l : List M) (p : Pl) : 0 ≤ (placeI l p).1 ∧ (placeI l p).1 ≤ l.length := by
  have h1 := findI_ge l p.2
  have h2 := findI_lt (w := p.2) l
  unfold placeI
  split
  · exact ⟨by simp, by simp⟩
  · split
    · exact ⟨by simp, by simp⟩
    · split
      · exact ⟨by simp, by simp⟩
      · split <;> simp <;> omega
theorem nat_of {z : Int} (h : 0 ≤ z) : ∃ n : Nat, z = n := ⟨z.toNat, by omega⟩
/-- Few members, and one more fits. -/
def fewer (l : List M) : Prop := few l ∧ l.length < 100000
theorem fewer.l {l : List M} (h : fewer l) : l.length ≤ 1000000 := by have := h.2; omega
theorem fewer.erase {l : List M} (h : fewer l) (k : Nat) : fewer (l.eraseIdx k) := ⟨few_erase h.1 k, by have := List.length_eraseIdx_le l k; have := h.2; omega⟩
theorem rReplace_p (l : List M) (m : M) (p : Pl) (hl : fewer l) (hm : m.data.length ≤ 1000000000) : Pur E 18 [memsV l, memV m, plV p] (resV (replR l m p)) := by
  obtain ⟨k, w⟩ := p
  refine Pur.enter [] Tryd.func18 rfl Tryd.ntmps18 Tryd.results18 hmE (by kernel_rfl) (by simp) (by simp) fun σ hσ => ?_
  conv => arg 5; cbv
  simp
  refine Pur.call (place_p l (k, w) hl.l) ?_
  simp
  refine ⟨fun h => ?_, fun h => ?_⟩
  · refine Pur.call (Copy_p l hl.1) ?_
    simp [replR, h]
  · refine Pur.call (rFind_p l m.name hl.l) ?_
    simp
    refine ⟨fun h2 => ?_, fun h2 => ?_⟩
    · obtain ⟨i, hi⟩ := nat_of h2
      have hlt := findI_lt (w := m.name) l
      rw [hi] at hlt ⊢
      refine Pur.d (without_p l i hl.1) ?_
      simp
      refine Pur.d (insert_p (l.eraseIdx i) i m (hl.erase i).1 (hl.erase i).2 hm (by rw [List.length_eraseIdx]; split <;> omega)) ?_
      simp [replR, h, hi]
    · obtain ⟨i, hi⟩ := nat_of (placeI_le l (k, w)).1
      have hle := (placeI_le l (k, w)).2
      rw [hi] at hle ⊢
      refine Pur.call (insert_p l i m hl.1 hl.2 hm (by omega)) ?_
      have h2' : ¬ 0 ≤ findI l m.name := by omega
      simp [replR, h, hi, h2']
theorem rAppend_p (l : List M) (m : M) (hl : fewer l) (hm : m.data.length ≤ 1000000000) : Pur E 20 [memsV l, memV m] (memsV (l ++ [m])) := by
  refine Pur.enter [] Tryd.func20 rfl Tryd.ntmps20 Tryd.results20 hmE (by kernel_rfl) (by simp) (bel_mems _) fun σ hσ => ?_
  conv => arg 5; cbv
  simp
  refine Pur.call (insert_p l l.length m hl.1 hl.2 hm (Nat.le_refl _)) ?_
  simp [insL]
theorem rDelete_p (l : List M) (w : W) (hl : fewer l) : Pur E 21 [memsV l, str w] (resV (delR l w)) := by
  refine Pur.enter [] Tryd.func21 rfl Tryd.ntmps21 Tryd.results21 hmE (by kernel_rfl) (by simp) (by simp) fun σ hσ => ?_
  conv => arg 5; cbv
  simp
  refine Pur.call (rFind_p l w hl.l) ?_
  simp
  refine ⟨fun h => ?_, fun h => ?_⟩
  · refine Pur.call (Copy_p l hl.1) ?_
    simp [delR, h]
  · obtain ⟨i, hi⟩ := nat_of h
    rw [hi]
    refine Pur.call (without_p l i hl.1) ?_
    simp [delR, hi]
theorem rMove_p (l : List M) (w : W) (p : Pl) (hl : fewer l) : Pur E 22 [memsV l, str w, plV p] (resV (movR l w p)) := by
  obtain ⟨k, v⟩ := p
  refine Pur.enter [] Tryd.func22 rfl Tryd.ntmps22 Tryd.results22 hmE (by kernel_rfl) (by simp) (by simp) fun σ hσ => ?_
  conv => arg 5; cbv
  simp
  have bad : k < 0 ∨ 2 < k → ∀ K : AV → Store → Prop, ∀ s, K (memsV l) s → ACalls E 28 [memsV l] s K := fun _ K s h => Pur.call (Copy_p l hl.1) h
  refine ⟨fun h => ?_, fun h0 => ⟨fun h => ?_, fun h1 => ?_⟩⟩
  · refine Pur.call (Copy_p l hl.1) ?_
    simp [movR, h]
  · refine Pur.call (Copy_p l hl.1) ?_
    simp [movR, h]
  · have hk : ¬ (k < 0 ∨ 2 < k) := by omega
    refine Pur.call (rFind_p l w hl.l) ?_
    simp
    refine ⟨fun h => ?_, fun h => ?_⟩
    · refine Pur.call (Copy_p l hl.1) ?_
      simp [movR, h, hk]
    · obtain ⟨i, hi⟩ := nat_of h
      have hlt := findI_lt (w := w) l
      rw [hi] at hlt ⊢
      refine Pur.call (without_p l i hl.1) ?_
      simp
      refine Pur.call (place_p (l.eraseIdx i) (k, v) (hl.erase i).l) ?_
      simp
      refine ⟨fun h2 => ?_, fun h2 => ?_⟩
      · refine Pur.call (Copy_p l hl.1) ?_
        simp [movR, hk, hi, h2]
      · have hil : i < l.length := by omega
        refine ⟨l[i], by simp, ?_⟩
        obtain ⟨j, hj⟩ := nat_of (placeI_le (l.eraseIdx i) (k, v)).1
        have hle := (placeI_le (l.eraseIdx i) (k, v)).2
        rw [hj] at hle ⊢
        refine Pur.call (insert_p (l.eraseIdx i) j l[i] (hl.erase i).1 (hl.erase i).2 (hl.1.2 _ (List.getElem_mem hil)) (by omega)) ?_
        simp [movR, hk, hi, h2, hj, hil]
theorem forward_p (p : Pl) : Pur E 11 [plV p] (plV p) := by
  obtain ⟨k, v⟩ := p
  refine Pur.enter [] Tryd.func11 rfl Tryd.ntmps11 Tryd.results11 hmE (by kernel_rfl) (by simp) (by simp) fun σ hσ => ?_
  conv => arg 5; cbv
  simp
/-- The data of a member, and an error. -/
def extR (l : List M) (w : W) : W × Int := if findI l w < 0 then ([], 10) else ((l.getD (findI l w).toNat default).data, 0)
theorem Extract_p (l : List M) (w : W) (hl : fewer l) : Pur E 23 [memsV l, str w] (.tup [bytes (extR l w).1, intV (extR l w).2]) := by
  refine Pur.enter [] Tryd.func23 rfl Tryd.ntmps23 Tryd.results23 hmE (by kernel_rfl) (by simp) (by simp) fun σ hσ => ?_
  conv => arg 5; cbv
  simp
  refine Pur.call (Find_p l w hl.l) ?_
  simp
  refine ⟨fun h => by simp [extR, h], fun h => ?_⟩
  obtain ⟨i, hi⟩ := nat_of h
  have hlt := findI_lt (w := w) l
  rw [hi] at hlt ⊢
  have hil : i < l.length := by omega
  simp
  refine ⟨l[i], by simp, ?_⟩
  refine Pur.call (clone_p _ (hl.1.2 _ (List.getElem_mem hil))) ?_
  simp [extR, hi, hil]
end Go.Proofs.YtnnhjaihjfdhbaaDoor
