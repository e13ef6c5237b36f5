/- What was read from any archive can be written and read again: the law. No condition. -/
import Derived.Test.YtcjdagpadnahfaaGreatDoorP12
import Derived.Test.YtcjdagpadnahfaaGreatDoorP10
set_option linter.unusedVariables false
set_option linter.unusedSimpArgs false
set_option linter.unnecessarySimpa false
namespace Go.Proofs.YtcjdagpadnahfaaGreatDoor
open Go Go.AW
set_option maxRecDepth 100000
set_option maxHeartbeats 8000000

theorem prs_bad {b : W} (h : (prsG b).2.2 ≠ 0) : (prsG b).1 = PS0 := by
  have key : ∀ (k : Nat) (b : W) (a : Nat) (x : PS), (go k b a x).2.2 ≠ 0 → (go k b a x).1 = PS0 := by
    intro k
    induction k with
    | zero => intro b a x h; exact absurd rfl h
    | succ k ih =>
      intro b a x h
      rw [go] at h ⊢
      split
      · rename_i hb; rw [if_pos hb] at h; exact absurd rfl h
      · rename_i hb
        rw [if_neg hb] at h
        split
        · rfl
        · rename_i he
          rw [if_neg he] at h
          split
          · rfl
          · rename_i ha
            rw [if_neg ha] at h
            exact ih _ _ _ h
  unfold prsG at h ⊢
  split
  · rfl
  · rename_i h1
    rw [if_neg h1] at h
    split
    · rfl
    · rename_i h2
      rw [if_neg h2] at h
      exact key _ _ _ _ h
theorem go_mem : ∀ (k : Nat) (b : W) (a : Nat) (x : PS), (go k b a x).1.mem.length ≤ x.mem.length + b.length
  | 0, b, a, x => by simp [go]
  | k + 1, b, a, x => by
    rw [go]
    split
    · simp
    · split
      · simp [PS0]
      · split
        · simp [PS0]
        · rename_i h1 h2 h3
          have hn := nxtN_pos (by simpa using h2)
          have ih := go_mem k (b.drop (nxtN b)) (a + nxtN b) (addX a (nxtH b) (nxtD b) x)
          have hx : (addX a (nxtH b) (nxtD b) x).mem.length ≤ x.mem.length + 1 := by
            unfold addX
            split
            · simp
            · split
              · simp
              · simp
          simp only [List.length_drop] at ih
          omega
theorem prs_mem (b : W) : (prsG b).1.mem.length ≤ b.length := by
  unfold prsG
  split
  · simp [PS0]
  · split
    · simp [PS0]
    · have := go_mem b.length (b.drop 8) 8 PS0
      simp [PS0] at this ⊢
      omega
theorem Canonical_p (k : Int) (b : W) (hb : b.length ≤ 9223372036854775807) : Pur (EM k) 8 [bytes b] (boolV true) := by
  refine Pur.enter [] Tryz.func8 rfl Tryz.ntmps8 Tryz.results8 hmE (by kernel_rfl) (by simp) (by simp) fun σ hσ => ?_
  conv => arg 5; cbv
  simp
  refine Pur.call (lift k awake_p5) ?_
  simp
  refine ⟨fun hl => ?_, fun hl => ?_⟩
  · refine Pur.call (lift k awake_p5) ?_
    simp
  have hP := lift k (rParse4_p b (by omega))
  have hinv := prs_inv b
  have hml := prs_mem b
  generalize prsG b = r at *
  obtain ⟨x, a, e⟩ := r
  simp only at hinv hml
  simp at hP
  refine Pur.call hP ?_
  by_cases he : e = 0
  · subst he
    have hF := lift k (Few_p x.mem (by omega))
    simp at hF
    simp
    refine Pur.call hF ?_
    cases hf : few20 x.mem with
    | false => simp
    | true =>
      simp
      intro hmp
      · obtain ⟨hl2, h0⟩ := inv_fits hinv hf
        have hm2 : x.mp.length ≤ 2000000 := by omega
        have hW := lift k (Write_p x.hm x.mp x.mem hm2 hl2)
        have hQ := Parse4_p k (outL x.hm x.mp x.mem) (out_short (by omega) hf)
        rw [prs_out x.hm x.mp x.mem hm2 hl2 (by omega)] at hQ
        have hmm : (if x.hm = true then x.mp else []) = x.mp := by
          cases hh : x.hm with
          | true => simp
          | false => simp [hinv.1 hh]
        rw [hmm] at hQ
        have hS := lift k (Same_p x.mp x.mp (by omega))
        have hM := lift k (SameMembers5_p x.mem hl2)
        simp [h0] at hW hQ hS hM
        refine Pur.call hW ?_
        simp
        refine Pur.call hQ ?_
        simp
        refine Pur.call hS ?_
        simp
        refine Pur.call hM ?_
        simp
  · simp [he]
end Go.Proofs.YtcjdagpadnahfaaGreatDoor
