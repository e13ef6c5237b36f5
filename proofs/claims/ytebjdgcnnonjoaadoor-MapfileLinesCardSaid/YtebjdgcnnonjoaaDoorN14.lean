/- A map handed over to the program. No condition. -/
import Derived.Test.YtebjdgcnnonjoaaDoorGH
set_option linter.unusedVariables false
set_option linter.unusedSimpArgs false
set_option linter.unnecessarySimpa false
namespace Go.Proofs.YtebjdgcnnonjoaaDoor
open Go Go.AW
set_option maxRecDepth 100000
set_option maxHeartbeats 100000000

theorem forward_p (m : Mp) (h1 : m.us.length ≤ 100000) (h2 : m.ss.length ≤ 100000) (h : m.ts.length ≤ 100000) : Pur E 20 [mpV m] (mpV m) := by
  refine Pur.enter [7000008, 7000012] Tryd.func20 rfl Tryd.ntmps20 Tryd.results20 hmE (by kernel_rfl) (by simp) (fun _ => by refine .agg _ ?_; intro a ha; simp at ha; rcases ha with rfl | rfl | rfl <;> exact .ps _ (by simp)) fun σ hσ => ?_
  conv => arg 5; cbv
  simp [mpV]
  have u5 : ∀ a ∈ m.ss, (syV a).cells.length = 5 := fun a _ => rfl
  have u3 : ∀ a ∈ m.us, (uV a).cells.length = 3 := fun a _ => rfl
  simp only [AV.cells] at u5 u3
  refine ⟨u3, by omega, by omega, u5, by omega, by omega, ⟨⟨u5, by omega, by omega⟩, u3, by omega, by omega⟩, ?_⟩
  refine loopW.adopt1 (p := σ.next + 2) (T := 27) (g := 0) (cs := [.ps (m.us.map uV), .ps (m.ss.map syV), .nl]) (cs' := [.ps (m.us.map uV), .ps (m.ss.map syV), .lg (σ.next + 3) []]) 70 (by simp) (by simp [cellsAs]) ?_
  obtain ⟨A, hA⟩ : ∃ A, A = m.us.map uV := ⟨_, rfl⟩
  obtain ⟨B, hB⟩ : ∃ B, B = m.ss.map syV := ⟨_, rfl⟩
  have bA : ∀ n, ∀ a ∈ A, Bel n a := by intro n a ha; rw [hA] at ha; simp at ha; obtain ⟨u, _, rfl⟩ := ha; simp
  have bB : ∀ n, ∀ a ∈ B, Bel n a := by intro n a ha; rw [hB] at ha; simp at ha; obtain ⟨u, _, rfl⟩ := ha; simp
  have fA : frzL A = A := by rw [hA]; simp [frzL_eq]
  have fB : frzL B = B := by rw [hB]; simp [frzL_eq]
  rw [← hA, ← hB]
  refine loop_e hmE (by kernel_rfl) (0, _) (fun x : Nat × Store => [(4, intV x.1)]) (fun x => x.2)
    (fun x => x.1 ≤ m.ts.length ∧ StoreBel x.2 ∧ σ.next + 4 ≤ x.2.next ∧ x.2.get σ.next = some (.arr 33 0 [.agg [.ps A, .ps B, .ps (m.ts.map slV)]]) ∧ x.2.get (σ.next + 1) = some (.arr 27 0 [.agg [.nl, .nl, .nl]]) ∧
      x.2.get (σ.next + 2) = some (.arr 27 0 [.agg [.ps A, .ps B, .lg (σ.next + 3) ((m.ts.take x.1).map slV)]]) ∧ x.2.get (σ.next + 3) = some (.log 70 x.1) ∧ ∀ n, n < σ.next → x.2.get n = σ.get n) (fun x => m.ts.length - x.1) ⟨Nat.zero_le _, ?_, by simp, by simp [show ¬ σ.next = σ.next + 1 + 2 by omega, show ¬ σ.next = σ.next + 2 by omega, show ¬ σ.next = σ.next + 1 + 1 by omega, show ¬ σ.next = σ.next + 3 by omega], by simp, by simp, by simp, ?_⟩ ?_ (Below.refl _) (by simp) ?_
  · refine StoreBel.set_obj (StoreBel.alloc_log (StoreBel.alloc_arr (StoreBel.alloc_arr (StoreBel.alloc_arr hσ ?_) (by simp)) ?_) _ _) (by simp) ?_
    · intro e he x hx
      simp at he; subst he; simp [AV.cells] at hx
      rcases hx with rfl | rfl | rfl
      · exact .ps _ (bA _)
      · exact .ps _ (bB _)
      · exact .ps _ (by simp)
    · intro e he x hx
      simp at he; subst he; simp [AV.cells] at hx
      rcases hx with rfl | rfl | rfl
      · exact .ps _ (bA _)
      · exact .ps _ (bB _)
      · exact .nl
    · intro e he x hx
      simp at he; subst he; simp [AV.cells] at hx
      rcases hx with rfl | rfl | rfl
      · exact .ps _ (bA _)
      · exact .ps _ (bB _)
      · exact .lg _ _ (by simp) (by simp)
  · intro n hn
    simp [show ¬ n = σ.next by omega, show ¬ n = σ.next + 1 by omega, show ¬ n = σ.next + 2 by omega, show ¬ n = σ.next + 3 by omega]
  · rintro x ⟨x1, x2, x3, _⟩
    refine ⟨by omega, x2, ?_⟩
    simp
    omega
  · rintro ⟨i, s⟩ ⟨x1, x2, x3, x4, x5, x6, x7, x8⟩
    simp only at x1 x2 x3 x4 x5 x6 x7 x8
    simp [x4]
    refine ⟨fun h => ?_, fun h => ?_⟩
    · obtain ⟨u, hu⟩ := get_ex h
      have hmin : min i m.ts.length = i := by omega
      simp [x4, x6, x7, hu, slV, hmin]
      refine ⟨by omega, by omega, i + 1, _, ⟨⟨h, ?_, ?_, ?_, ?_, ?_, ?_, ?_⟩, by omega⟩, Below.refl _, wrap_succ h (by omega)⟩
      · refine StoreBel.set_obj (StoreBel.set_obj x2 (by omega) ?_) (by simp; omega) trivial
        intro e he x hx
        simp at he; subst he; simp [AV.cells] at hx
        rcases hx with rfl | rfl | rfl
        · exact .ps _ (bA _)
        · exact .ps _ (bB _)
        · refine .lg _ _ (by omega) ?_
          intro a ha
          simp at ha
          rcases ha with ha | rfl
          · obtain ⟨v, _, rfl⟩ := List.mem_map.1 (List.mem_of_mem_take ha)
            simp
          · simp
      · simpa using x3
      · simp [x4, show ¬ σ.next = σ.next + 2 by omega, show ¬ σ.next = σ.next + 3 by omega]
      · simp [x5, show ¬ σ.next + 1 = σ.next + 2 by omega, show ¬ σ.next + 1 = σ.next + 3 by omega]
      · have e : (m.ts.take (i + 1)).map slV = (m.ts.take i).map slV ++ [slV u] := by rw [List.take_add_one, hu]; simp
        simp at e
        simp [e, slV]
      · simp
      · intro n hn
        simp [show ¬ n = σ.next + 2 by omega, show ¬ n = σ.next + 3 by omega, x8 n hn]
    · have hi' : i = m.ts.length := by omega
      subst hi'
      simp [x5, x6, fA, fB]
      exact ⟨by omega, x8⟩
end Go.Proofs.YtebjdgcnnonjoaaDoor
