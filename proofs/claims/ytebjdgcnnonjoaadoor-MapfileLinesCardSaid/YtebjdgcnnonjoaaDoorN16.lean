/- Printed maps are canonical; their lines. No condition. -/
import Derived.Test.YtebjdgcnnonjoaaDoorN8
import Derived.Test.YtebjdgcnnonjoaaDoorN14
import Derived.Test.YtebjdgcnnonjoaaDoorN13
set_option linter.unusedVariables false
set_option linter.unusedSimpArgs false
set_option linter.unnecessarySimpa false
namespace Go.Proofs.YtebjdgcnnonjoaaDoor
open Go Go.AW
set_option maxRecDepth 100000
set_option maxHeartbeats 100000000

theorem flat_le {α : Type} (f : α → W) (n : Nat) : ∀ (l : List α), (∀ x ∈ l, (f x).length ≤ n) → (l.flatMap f).length ≤ l.length * n
  | [], _ => by simp
  | x :: l, h => by
    have h1 := h x (by simp)
    have h2 := flat_le f n l (fun y hy => h y (by simp [hy]))
    simp only [List.flatMap_cons, List.length_append, List.length_cons, Nat.succ_mul]
    omega
theorem few_pr {m : Mp} (hf : few m = true) (hok : m.ok = true) : (m.us.length ≤ 30 ∧ m.ss.length ≤ 30 ∧ m.ts.length ≤ 30) ∧ m.pr.length ≤ 40000 := by
  obtain ⟨⟨l1, l2, l3⟩, f1, f2, f3⟩ := (few_iff m).1 hf
  obtain ⟨k1, k2, k3⟩ := (ok_iff m).1 hok
  refine ⟨⟨l1, l2, l3⟩, ?_⟩
  have a1 : (prU m.us).length ≤ m.us.length * 330 := flat_le _ _ _ fun u hu => by have := lnw_u (n := 50) (k1 u hu) (f1 u hu).1 (f1 u hu).2; omega
  have a2 : (prS m.ss).length ≤ m.ss.length * 240 := flat_le _ _ _ fun u hu => by have := lnw_s (n := 50) (k2 u hu) (f2 u hu); omega
  have a3 : (prT m.ts).length ≤ m.ts.length * 200 := flat_le _ _ _ fun u hu => by have := lnw_t (n := 50) (k3 u hu) (f3 u hu); omega
  simp [Mp.pr, Mp.txt, lnW, jn, wEnd]
  omega
theorem Canonical_p (m : Mp) : Pur E 5 [mpV m] (boolV true) := by
  refine Pur.enter [] Tryd.func5 rfl Tryd.ntmps5 Tryd.results5 hmE (by kernel_rfl) (by simp) (fun _ => .c _) fun σ hσ => ?_
  conv => arg 5; cbv
  simp [-thenK_normal, mpV]
  obtain ⟨σ1, e1, b1, n1, g1, o1⟩ := boxM hσ 33 m
  have e1' := e1
  simp only [mpO] at e1' g1
  rw [← e1']
  simp only [thenK_normal]
  simp [-thenK_normal]
  refine Pur.call awake_p ?_
  simp [-thenK_normal, g1]
  refine Pur.call (Few_p m) ?_
  simp [-thenK_normal, g1]
  refine ⟨fun hf => ?_, fun hf => ?_⟩
  · simp only [thenK_normal]
    simp [-thenK_normal]
    refine Pur.call awake_p ?_
    simp [o1]
  · obtain ⟨f1, f2, f3⟩ := ((few_iff m).1 hf).1
    refine Pur.call (Printable_p m (by omega) (by omega) (by omega)) ?_
    simp [-thenK_normal, g1]
    cases hok : m.ok with
    | false =>
      simp only [thenK_normal]
      simp [-thenK_normal]
      refine Pur.call awake_p ?_
      simp [o1]
    | true =>
      obtain ⟨⟨l1, l2, l3⟩, lp⟩ := few_pr hf hok
      simp only [thenK_normal]
      simp [-thenK_normal]
      simp only [thenK_normal]
      simp [-thenK_normal, g1]
      refine Pur.call (forward_p m (by omega) (by omega) (by omega)) ?_
      simp [-thenK_normal, mpV]
      refine Pur.call (Print_p m hok (by omega)) ?_
      simp [-thenK_normal]
      simp only [thenK_normal]
      simp [-thenK_normal]
      have hP := Parse_p m.pr (by omega)
      rw [parseP_pr hok] at hP
      refine Pur.call hP ?_
      simp [-thenK_normal, prsV, mpV]
      simp only [thenK_normal]
      have z1 : ¬ σ.next = σ1.next := by omega
      have z3 : ¬ σ1.next = σ.next := by omega
      simp [-thenK_normal, g1, z1, z3]
      refine Pur.d (rPrint_p m hok (by omega)) ?_
      simp [-thenK_normal, g1, z1, z3]
      refine Pur.d (back_p m (by omega)) ?_
      simp [-thenK_normal, g1, z1, z3, mpV]
      refine Pur.d (Same_p m m (by omega) (by omega) (by omega)) ?_
      simp [g1, z1, z3, o1]
      exact o1.alloc _
theorem Lines_p (m : Mp) : Pur E 7 [mpV m] (boolV true) := by
  refine Pur.enter [] Tryd.func7 rfl Tryd.ntmps7 Tryd.results7 hmE (by kernel_rfl) (by simp) (fun _ => .c _) fun σ hσ => ?_
  conv => arg 5; cbv
  simp [-thenK_normal, mpV]
  obtain ⟨σ1, e1, b1, n1, g1, o1⟩ := boxM hσ 33 m
  have e1' := e1
  simp only [mpO] at e1' g1
  rw [← e1']
  simp only [thenK_normal]
  simp [-thenK_normal]
  refine Pur.call awake_p ?_
  simp [-thenK_normal, g1]
  refine Pur.call (Few_p m) ?_
  simp [-thenK_normal, g1]
  refine ⟨fun hf => ?_, fun hf => ?_⟩
  · simp only [thenK_normal]
    simp [-thenK_normal]
    refine Pur.call awake_p ?_
    simp [o1]
  · obtain ⟨f1, f2, f3⟩ := ((few_iff m).1 hf).1
    refine Pur.call (Printable_p m (by omega) (by omega) (by omega)) ?_
    simp [-thenK_normal, g1]
    cases hok : m.ok with
    | false =>
      simp only [thenK_normal]
      simp [-thenK_normal]
      refine Pur.call awake_p ?_
      simp [o1]
    | true =>
      obtain ⟨⟨l1, l2, l3⟩, lp⟩ := few_pr hf hok
      simp only [thenK_normal]
      simp [-thenK_normal]
      simp only [thenK_normal]
      simp [-thenK_normal, g1]
      refine Pur.call (forward_p m (by omega) (by omega) (by omega)) ?_
      simp [-thenK_normal, mpV]
      refine Pur.call (Print_p m hok (by omega)) ?_
      simp [-thenK_normal]
      repeat (simp only [thenK_normal]; simp [-thenK_normal])
      obtain ⟨s, hs⟩ : ∃ s, s = m.pr := ⟨_, rfl⟩
      rw [← hs]
      refine loop_n hmE (by kernel_rfl) s.length (fun i => [(4, intV ((s.take i).count 10 : Nat)), (5, intV i)]) (fun i => i ≤ s.length) (by omega) b1 (Nat.zero_le _) (by simp; omega) (by simp) fun i hi => ?_
      rw [← hs] at lp
      have hct := List.count_le_length (a := (10 : UInt8)) (l := s.take i)
      have hcl : (s.take i).length ≤ i := by simp; omega
      simp [g1]
      refine ⟨fun h => ?_, fun h => ?_⟩
      · obtain ⟨x, hx⟩ := get_ex h
        have hw : IntKind.i64.wrap ((i : Int) + 1) = (i : Int) + 1 := wrap64_id (by omega) (by omega)
        have hw2 : IntKind.i64.wrap (((s.take i).count 10 : Nat) + 1 : Int) = ((s.take i).count 10 : Nat) + 1 := wrap64_id (by omega) (by omega)
        have ht : s.take (i + 1) = s.take i ++ [x] := by rw [List.take_add_one, hx]; rfl
        simp only [hx, hw, hw2, ht, List.count_append, Option.getD_some]
        have hx10 : (x.toNat : Int) = 10 ↔ x = 10 := by
          constructor
          · intro e; exact UInt8.toNat.inj (by simpa using (by omega : x.toNat = 10))
          · rintro rfl; rfl
        rw [hx10]
        refine ⟨h, fun e => ?_, fun e => ?_⟩
        · subst e; simp; omega
        · have : List.count 10 [x] = 0 := by rw [List.count_singleton]; simp [e]
          rw [this]; simp; omega
      · have hcn : (s.take i).count 10 = m.us.length + m.ss.length + m.ts.length + 1 := by rw [List.take_of_length_le h, hs, pr_count]
        have w1 : IntKind.i64.wrap ((m.us.length : Int) + m.ss.length) = (m.us.length : Int) + m.ss.length := wrap64_id (by omega) (by omega)
        have w2 : IntKind.i64.wrap ((m.us.length : Int) + m.ss.length + m.ts.length) = (m.us.length : Int) + m.ss.length + m.ts.length := wrap64_id (by omega) (by omega)
        have w3 : IntKind.i64.wrap ((m.us.length : Int) + m.ss.length + m.ts.length + 1) = (m.us.length : Int) + m.ss.length + m.ts.length + 1 := wrap64_id (by omega) (by omega)
        simp [hcn, o1, w1, w2, w3]
end Go.Proofs.YtebjdgcnnonjoaaDoor
