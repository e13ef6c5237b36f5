/- Accepted texts: the law. No condition. -/
import Derived.Test.YtebjdgcnnonjoaaDoorN8
set_option linter.unusedVariables false
set_option linter.unusedSimpArgs false
set_option linter.unnecessarySimpa false
namespace Go.Proofs.YtebjdgcnnonjoaaDoor
open Go Go.AW
set_option maxRecDepth 100000
set_option maxHeartbeats 100000000

theorem pr_len (m : Mp) : m.us.length ≤ m.pr.length ∧ m.ss.length ≤ m.pr.length ∧ m.ts.length ≤ m.pr.length := by
  have := len_prU m.us
  have := len_prS m.ss
  have := len_prT m.ts
  simp [Mp.pr, Mp.txt]
  omega
theorem prs_cases (s : W) : (∃ n, parseP s = (Mp.e, n, false) ∧ 1 ≤ n ∧ n ≤ s.length + 1) ∨ ∃ m, parseP s = (m, 0, true) ∧ m.ok = true ∧ s = m.pr := by
  obtain ⟨m, n, b, h⟩ : ∃ m n b, parseP s = (m, n, b) := ⟨_, _, _, rfl⟩
  cases b with
  | false =>
    have h3 := goP_bad _ _ _ _ _ _ (spA_ne 10 [] s) h
    have hc := sp_count 10 s
    have := List.count_le_length (a := (10 : UInt8)) (l := s)
    refine .inl ⟨n, by rw [h, h3.1], by omega, ?_⟩
    have e : spA 10 [] s = sp 10 s := rfl
    rw [e] at h3
    omega
  | true =>
    obtain ⟨h1, h2, h3⟩ := parseP_ok h
    exact .inr ⟨m, by rw [h, h1], h3, h2⟩
theorem Accepted_p (s : W) : Pur E 6 [str s] (boolV true) := by
  refine Pur.enter [] Tryd.func6 rfl Tryd.ntmps6 Tryd.results6 hmE (by kernel_rfl) (by simp) (fun _ => .c _) fun σ hσ => ?_
  conv => arg 5; cbv
  simp
  refine Pur.call awake_p ?_
  simp
  refine ⟨fun h => ?_, fun h => ?_⟩
  · refine Pur.call awake_p ?_
    simp
  · have hs : s.length ≤ 2000 := by omega
    have hP := Parse_p s (by omega)
    rcases prs_cases s with ⟨n, hn, h1, h2⟩ | ⟨m, hm, hok, hpr⟩
    · rw [hn] at hP
      refine Pur.call hP ?_
      simp [prsV, mpV]
      refine ⟨fun _ => ?_, by omega⟩
      refine Pur.call (back_p Mp.e (by simp [Mp.e])) ?_
      simp
      refine Pur.call (Same_p Mp.e Mp.e (by simp [Mp.e]) (by simp [Mp.e]) (by simp [Mp.e])) ?_
      simp
    · rw [hm] at hP
      have pl := pr_len m
      rw [← hpr] at pl
      refine Pur.call hP ?_
      simp [prsV, mpV]
      have q := Print_p m hok (by rw [← hpr]; omega)
      rw [← hpr] at q
      refine Pur.call q ?_
      simp
      have hne : ¬ s = [] := by rw [hpr]; simp [Mp.pr, lnW]
      refine ⟨hne, fun _ => ?_⟩
      have hal : StoreBel (σ.alloc (.arr 27 0 [mpV m])) := hσ.alloc_arr (by
        intro e he x hx
        simp at he
        subst he
        simp [mpV, AV.cells] at hx
        rcases hx with rfl | rfl | rfl
        · exact .ps _ (by simp)
        · exact .ps _ (by simp)
        · exact .ps _ (by simp))
      have hnx : σ.next ≤ (σ.alloc (.arr 27 0 [mpV m])).next := by simp
      obtain ⟨σ1, hσ1⟩ : ∃ σ1, σ1 = σ.alloc (.arr 27 0 [mpV m]) := ⟨_, rfl⟩
      rw [← hσ1] at hal hnx
      have hbl : Below σ σ1 := by rw [hσ1]; exact (Below.refl σ).alloc _
      simp only [mpV] at hσ1
      rw [← hσ1]
      refine loop_n hmE (by kernel_rfl) s.length (fun i => [(6, intV ((s.take i).count 10 : Nat)), (7, intV i)]) (fun i => i ≤ s.length) hnx hal (Nat.zero_le _) (by simp) (by simp) fun i hi => ?_
      simp
      have hct := List.count_le_length (a := (10 : UInt8)) (l := s.take i)
      have hcl : (s.take i).length ≤ i := by simp; omega
      refine ⟨fun h => ?_, fun h => ?_⟩
      · obtain ⟨x, hx⟩ := get_ex h
        have hw : IntKind.i64.wrap ((i : Int) + 1) = (i : Int) + 1 := wrap64_id (by omega) (by omega)
        have hw2 : IntKind.i64.wrap (((s.take i).count 10 : Nat) + 1 : Int) = ((s.take i).count 10 : Nat) + 1 := wrap64_id (by omega) (by omega)
        have ht : s.take (i + 1) = s.take i ++ [x] := by rw [List.take_add_one, hx]; rfl
        simp only [hx, hw, hw2, ht, List.count_append, Option.getD_some]
        have hx10 : (x.toNat : Int) = 10 ↔ x = 10 := by
          constructor
          · intro e; exact UInt8.toNat.inj (by simpa using (by omega : x.toNat = 10))
          · rintro rfl; rfl
        rw [hx10]
        refine ⟨h, fun e => ?_, fun e => ?_⟩
        · subst e; simp; omega
        · have : List.count 10 [x] = 0 := by rw [List.count_singleton]; simp [e]
          rw [this]; simp; omega
      · have hpos : 0 < s.length := List.length_pos_iff.2 hne
        have hw : IntKind.i64.wrap ((s.length : Int) - 1) = (s.length - 1 : Nat) := by rw [wrap64_id (by omega) (by omega)]; omega
        have ht : s.take (s.length - 1) = m.txt ++ wEnd := by
          have e : s = m.txt ++ wEnd ++ [10] := by rw [hpr]; simp [Mp.pr, lnW, jn]
          rw [e]; simp only [List.length_append, List.length_singleton, Nat.add_sub_cancel]
          rw [← List.length_append, List.take_left']; rfl
        rw [hw]
        refine ⟨by omega, by omega, ?_⟩
        simp only [Int.toNat_natCast]
        rw [ht]
        have hP2 := Parse_p (m.txt ++ wEnd) (by rw [← ht]; simp; omega)
        rw [parseP_cut hok] at hP2
        refine Pur.call hP2 ?_
        have hcn : (s.take i).count 10 = m.lns.length + 1 := by rw [List.take_of_length_le h, hpr, pr_count, lns_len]
        simp [prsV, mpV, hcn]
        exact hbl.alloc _
end Go.Proofs.YtebjdgcnnonjoaaDoor
