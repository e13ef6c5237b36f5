/- Against the reference: the law. No condition. -/
import Derived.Test.YtebjdgcnnonjoaaDoorN8
import Derived.Test.YtebjdgcnnonjoaaDoorN17
set_option linter.unusedVariables false
set_option linter.unusedSimpArgs false
set_option linter.unnecessarySimpa false
namespace Go.Proofs.YtebjdgcnnonjoaaDoor
open Go Go.AW
set_option maxRecDepth 100000
set_option maxHeartbeats 100000000

theorem goP_len : ∀ (segs : List W) (i : Nat) (m : Mp) (ph : Nat), (goP segs i m ph).1.us.length ≤ m.us.length + segs.length ∧ (goP segs i m ph).1.ss.length ≤ m.ss.length + segs.length ∧ (goP segs i m ph).1.ts.length ≤ m.ts.length + segs.length
  | [], i, m, ph => by simp [goP, Mp.e]
  | [l], i, m, ph => by
    rw [goP]
    split
    · simp
    · simp [Mp.e]
  | l :: l' :: r, i, m, ph => by
    rw [goP]
    split
    · simp [Mp.e]
    · split
      · simp [Mp.e]
      · rename_i k _
        split
        · simp [Mp.e]
        · have := goP_len (l' :: r) (i + 1) (m.add k) k.ph
          have hk : (m.add k).us.length ≤ m.us.length + 1 ∧ (m.add k).ss.length ≤ m.ss.length + 1 ∧ (m.add k).ts.length ≤ m.ts.length + 1 := by cases k <;> simp [Mp.add]
          simp only [List.length_cons] at this ⊢
          omega
theorem Matches_p (s a : W) : Pur E 3 [str s, str a] (boolV true) := by
  refine Pur.enter [] Tryd.func3 rfl Tryd.ntmps3 Tryd.results3 hmE (by kernel_rfl) (by simp) (fun _ => .c _) fun σ hσ => ?_
  conv => arg 5; cbv
  simp [-thenK_normal]
  simp only [thenK_normal]
  simp [-thenK_normal]
  refine Pur.call awake_p ?_
  simp [-thenK_normal]
  refine ⟨fun h => ?_, fun h => ?_⟩
  · simp only [thenK_normal]
    simp [-thenK_normal]
    refine Pur.call awake_p ?_
    simp
  · simp only [thenK_normal]
    by_cases ha : (a.length : Int) ≤ 100
    · have ha' : ¬ (100 : Int) < a.length := by omega
      simp [-thenK_normal, ha, ha']
      repeat (simp only [thenK_normal]; simp [-thenK_normal, ha, ha'])
      have hP := Parse_p s (by omega)
      have hR := rParse_p s (by omega)
      obtain ⟨q1, q2, q3⟩ := goP_len (sp 10 s) 0 Mp.e 0
      have hc := sp_count 10 s
      have hc2 := List.count_le_length (a := (10 : UInt8)) (l := s)
      obtain ⟨m, n, b, hp⟩ : ∃ m n b, parseP s = (m, n, b) := ⟨_, _, _, rfl⟩
      have hp' : goP (sp 10 s) 0 Mp.e 0 = (m, n, b) := hp
      rw [hp'] at q1 q2 q3
      simp only [Mp.e, List.length_nil] at q1 q2 q3
      rw [hp] at hP hR
      refine Pur.call hP ?_
      simp [-thenK_normal, prsV, mpV]
      repeat (simp only [thenK_normal]; simp [-thenK_normal])
      refine Pur.call hR ?_
      simp [-thenK_normal, rprsV, mpV]
      repeat (simp only [thenK_normal]; simp [-thenK_normal])
      refine Pur.call (Unescape_p a (by omega)) ?_
      simp [-thenK_normal]
      repeat (simp only [thenK_normal]; simp [-thenK_normal])
      refine Pur.call (rUnescape_p a (by omega)) ?_
      simp [-thenK_normal]
      simp only [thenK_normal]
      simp [-thenK_normal]
      refine Pur.d (back_p m (by omega)) ?_
      simp [-thenK_normal, mpV]
      refine Pur.d (Same_p m m (by omega) (by omega) (by omega)) ?_
      cases b
      all_goals
        simp [-thenK_normal]
        refine Pur.d (Escape_p a (by omega)) ?_
        simp [-thenK_normal]
        refine Pur.d (rEscape_p a (by omega)) ?_
        simp
    · have ha' : (100 : Int) < a.length := by omega
      simp [-thenK_normal, ha, ha']
      repeat (simp only [thenK_normal]; simp [-thenK_normal, ha, ha'])
      refine Pur.call awake_p ?_
      simp
end Go.Proofs.YtebjdgcnnonjoaaDoor
