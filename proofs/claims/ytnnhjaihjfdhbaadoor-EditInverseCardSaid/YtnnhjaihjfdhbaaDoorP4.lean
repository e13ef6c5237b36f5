/- Few, awake. No condition. -/
import Derived.Test.YtnnhjaihjfdhbaaDoorP3
set_option linter.unusedVariables false
set_option linter.unusedSimpArgs false
set_option linter.unnecessarySimpa false
namespace Go.Proofs.YtnnhjaihjfdhbaaDoor
open Go Go.AW
set_option maxRecDepth 100000
set_option maxHeartbeats 8000000

/-- The bytes of all data, as the program counts them. -/
def tot (l : List M) : Int := l.foldl (fun n m => IntKind.i64.wrap (n + m.data.length)) 0
theorem tot_snoc {l : List M} {i : Nat} {m : M} (h : l[i]? = some m) : tot (l.take (i + 1)) = IntKind.i64.wrap (tot (l.take i) + m.data.length) := by
  unfold tot; rw [List.take_add_one, h]; simp
/-- A member that is small. -/
def MOk (m : M) : Prop := m.name.length ≤ 300 ∧ m.data.length ≤ 1000
instance : DecidablePred MOk := fun m => inferInstanceAs (Decidable (_ ∧ _))
/-- What 'Few' answers. -/
def fewB (l : List M) : Bool := decide (l.length ≤ 20 ∧ (∀ m ∈ l, MOk m) ∧ tot l ≤ 5000)
theorem fewB.few {l : List M} (h : fewB l = true) : fewer l := by
  simp [fewB] at h
  exact ⟨⟨by omega, fun m hm => by have := (h.2.1 m hm).2; omega⟩, by omega⟩
theorem fewB.len {l : List M} (h : fewB l = true) : l.length ≤ 20 := by
  simp [fewB] at h
  exact h.1
theorem Few_p (l : List M) : Pur E 9 [memsV l] (boolV (fewB l)) := by
  refine Pur.enter [] Tryd.func9 rfl Tryd.ntmps9 Tryd.results9 hmE (by kernel_rfl) (by simp) (by simp) fun σ hσ => ?_
  conv => arg 5; cbv
  simp
  refine loop_n hmE (by kernel_rfl) 30 (fun i => [(3, intV (tot (l.take i))), (4, intV i)]) (fun i => i ≤ l.length ∧ i ≤ 21 ∧ ∀ m ∈ l.take i, MOk m) (Nat.le_refl _) hσ (by simp) (by simp) (by simp [tot]) fun i ⟨hi, h21, hok⟩ => ?_
  simp
  have bad : ∀ a, l[i]? = some a → ¬ MOk a → fewB l = false := fun a ha h => by
    simp only [fewB, decide_eq_false_iff_not]
    exact fun h2 => h (h2.2.1 a (List.mem_of_getElem? ha))
  have nd : l.length ≤ i → l.length ≤ 20 → decide (tot (List.take i l) ≤ 5000) = fewB l := fun h h2 => by
    rw [List.take_of_length_le h] at hok ⊢
    unfold fewB
    rw [decide_eq_decide]
    exact ⟨fun h3 => ⟨h2, hok, h3⟩, fun h3 => h3.2.2⟩
  have big : 20 < l.length → fewB l = false := fun h => by
    simp only [fewB, decide_eq_false_iff_not]
    exact fun h2 => by have := h2.1; omega
  refine ⟨fun h => ⟨fun h20 => ?_, fun h20 => ⟨fun h1 => by omega, fun h1 => big (by omega)⟩⟩, fun h => ⟨fun h1 => nd h (by omega), fun h1 => big (by omega)⟩⟩
  obtain ⟨a, ha⟩ := get_ex h
  refine ⟨a, ha, fun h1 => bad a ha fun h2 => by have := h2.1; omega, fun h1 => ⟨a, ha, fun h2 => bad a ha fun h3 => by have := h3.2; omega, fun h2 => ⟨a, ha, ⟨(tot_snoc ha).symm, wrap64_id (by omega) (by omega)⟩, ⟨h, by omega, fun m hm => ?_⟩, by omega⟩⟩⟩
  rw [List.take_add_one, ha] at hm
  simp at hm
  rcases hm with hm | rfl
  · exact hok m hm
  · exact ⟨by omega, by omega⟩
def mem (n : W) (t : Int) : M := ⟨n, t, 0, 0, 0, []⟩
theorem awake_p : Pur E 8 [] (boolV true) := by
  refine Pur.enter [] Tryd.func8 rfl Tryd.ntmps8 Tryd.results8 hmE (by kernel_rfl) (by simp) (by simp) fun σ hσ => ?_
  conv => arg 5; cbv
  simp
  have fw : ∀ l : List M, l.length ≤ 3 → (∀ m ∈ l, m.data = []) → fewer l := fun l h hd => ⟨⟨by omega, fun m hm => by rw [hd m hm]; simp⟩, by omega⟩
  have c1 := Replace_p [mem [97] 0, mem [98] 0] (mem [99] 0) (1, [98]) (fw _ (by simp) (by simp [mem])) (by simp [mem])
  rw [show replR [mem [97] 0, mem [98] 0] (mem [99] 0) (1, [98]) = ([mem [97] 0, mem [99] 0, mem [98] 0], 0) from rfl] at c1
  refine Pur.call c1 ?_
  clear c1
  simp [mem]
  have c1 := Replace_p [mem [97] 0, mem [99] 0, mem [98] 0] (mem [98] 7) (0, []) (fw _ (by simp) (by simp [mem])) (by simp [mem])
  rw [show replR [mem [97] 0, mem [99] 0, mem [98] 0] (mem [98] 7) (0, []) = ([mem [97] 0, mem [99] 0, mem [98] 7], 0) from rfl] at c1
  refine Pur.call c1 ?_
  clear c1
  simp [mem]
  have c1 := Move_p [mem [97] 0, mem [99] 0, mem [98] 7] [98] (2, [97]) (fw _ (by simp) (by simp [mem]))
  rw [show movR [mem [97] 0, mem [99] 0, mem [98] 7] [98] (2, [97]) = ([mem [97] 0, mem [98] 7, mem [99] 0], 0) from rfl] at c1
  refine Pur.call c1 ?_
  clear c1
  simp [mem]
  have c1 := Delete_p [mem [97] 0, mem [98] 0] [120] (fw _ (by simp) (by simp [mem]))
  rw [show delR [mem [97] 0, mem [98] 0] [120] = ([mem [97] 0, mem [98] 0], 10) from rfl] at c1
  refine Pur.call c1 ?_
  clear c1
  simp [mem]
  have c1 := Move_p [mem [97] 0, mem [98] 0] [97] (1, [97]) (fw _ (by simp) (by simp [mem]))
  rw [show movR [mem [97] 0, mem [98] 0] [97] (1, [97]) = ([mem [97] 0, mem [98] 0], 11) from rfl] at c1
  refine Pur.call c1 ?_
  clear c1
  simp [mem]
  first | refine Pur.call (List_p [mem [97] 0, mem [99] 0, mem [98] 0] (by simp)) ?_ | refine Pur.d (List_p [mem [97] 0, mem [99] 0, mem [98] 0] (by simp)) ?_
  simp [mem]
  first | refine Pur.call (Texts_p [[97], [99], [98]] [[97], [99], [98]] (by simp)) ?_ | refine Pur.d (Texts_p [[97], [99], [98]] [[97], [99], [98]] (by simp)) ?_
  simp
  first | refine Pur.call (List_p [mem [97] 0, mem [98] 7, mem [99] 0] (by simp)) ?_ | refine Pur.d (List_p [mem [97] 0, mem [98] 7, mem [99] 0] (by simp)) ?_
  simp [mem]
  first | refine Pur.call (Texts_p [[97], [98], [99]] [[97], [98], [99]] (by simp)) ?_ | refine Pur.d (Texts_p [[97], [98], [99]] [[97], [98], [99]] (by simp)) ?_
  simp
  first | refine Pur.call (Find_p [mem [97] 0, mem [98] 0] [98] (by simp)) ?_ | refine Pur.d (Find_p [mem [97] 0, mem [98] 0] [98] (by simp)) ?_
  simp [mem, findI]
end Go.Proofs.YtnnhjaihjfdhbaaDoor
