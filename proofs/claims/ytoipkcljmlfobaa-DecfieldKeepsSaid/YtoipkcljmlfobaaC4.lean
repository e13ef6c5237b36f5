/- The law that greater numbers do not have fewer digits: what it computes on every argument. No condition. -/
import Derived.Test.YtoipkcljmlfobaaC3
set_option linter.unusedVariables false
set_option linter.unusedSimpArgs false
namespace Go.Proofs.Ytoipkcljmlfobaa
open Go Go.AW
set_option maxRecDepth 100000
set_option maxHeartbeats 8000000

theorem aw1 : fmtE 420 8 8 = 0 := by simp [fmtE, nd]
theorem aw2 : fmtL 420 8 8 = [54, 52, 52, 32, 32, 32, 32, 32] := by simp [fmtL, aw1, tx, nd, dg]
theorem aw3 : prsE [54, 52, 52, 32, 32, 32, 32, 32] 8 = 0 := by
  rw [prsE, if_neg (by decide), if_pos (by unfold okf; decide)]
theorem aw4 : prsN [54, 52, 52, 32, 32, 32, 32, 32] 8 = 420 := by rw [prsN, if_pos aw3]; decide
theorem aw5 : prsE [48, 55, 32] 10 = 3 := by
  rw [prsE, if_neg (by decide), if_neg (by unfold okf; decide)]
theorem aw6 : prsE [32, 55] 10 = 3 := by
  rw [prsE, if_neg (by decide), if_neg (by unfold okf; decide)]
theorem aw7 : fmtE 10 10 1 = 9 := by simp [fmtE, nd]
theorem aw8 : dgs 420 8 = 3 := by simp [dgs, nd]

theorem awake_c (σ : Store) : ACalls E 9 [] σ fun r σ' => r = .c (.bool true) ∧ σ' = σ := by
  refine ACalls.enter Try.func9 rfl Try.ntmps9 Try.results9 (by simp) fun hσ => ?_
  refine AW.stepL [] [] fun K hK => ?_
  simp
  refine hK _ _ ?_; clear hK
  refine AW.stepL [] [1, 2] fun K hK => ?_
  simp
  refine (Format_s 420 8 8 (by decide) σ).mono ?_
  rintro r σ' ⟨rfl, rfl⟩
  simp [aw1, aw2]
  refine hK _ _ ?_; clear hK
  refine AW.stepL [1000016] [1, 2, 3, 4] fun K hK => ?_
  simp
  refine (Parse_c [54, 52, 52, 32, 32, 32, 32, 32] 8 (by decide) σ').mono ?_
  rintro r σ ⟨rfl, rfl⟩
  simp [aw3, aw4]
  refine hK _ _ ?_; clear hK
  refine AW.stepL [1000022] [1, 2, 3, 4, 6] fun K hK => ?_
  simp
  refine (Parse_c [48, 55, 32] 10 (by decide) σ).mono ?_
  rintro r σ' ⟨rfl, rfl⟩
  simp [aw5]
  refine hK _ _ ?_; clear hK
  refine AW.stepL [1000028] [1, 2, 3, 4, 6, 8] fun K hK => ?_
  simp
  refine (Parse_c [32, 55] 10 (by decide) σ').mono ?_
  rintro r σ ⟨rfl, rfl⟩
  simp [aw6]
  refine hK _ _ ?_; clear hK
  refine AW.stepL [] [1, 2, 3, 4, 6, 8, 10] fun K hK => ?_
  simp
  refine (Format_s 10 10 1 (by decide) σ).mono ?_
  rintro r σ' ⟨rfl, rfl⟩
  simp [aw7]
  refine hK _ _ ?_; clear hK
  refine AW.stepL [1000069, 1000074] [0] fun K hK => ?_
  simp [AV.isByte, AV.byte]

  refine (Digits_c 420 8 (by decide) σ').mono ?_
  rintro r σ ⟨rfl, rfl⟩
  simp [aw8]
  refine (Blank_c [32, 32] (by decide) σ).mono ?_
  rintro r σ' ⟨rfl, rfl⟩
  simp
  refine (Blank_c [32, 120] (by decide) σ').mono ?_
  rintro r σ ⟨rfl, rfl⟩
  simp
  refine hK _ _ ?_; clear hK
  refine AW.ret ?_
  simp
  exact Fin.same (Nat.le_refl _) ⟨rfl, rfl⟩

theorem nd_mono (b : Nat) (hb : 2 ≤ b) : ∀ n m : Nat, n ≤ m → nd b n ≤ nd b m := by
  intro n
  induction n using Nat.strongRecOn with
  | _ n ih =>
    intro m h
    by_cases hn : n < b
    · rw [nd_lt hn]; exact nd_pos b m
    · rw [nd_ge hb (by omega), nd_ge hb (by omega : b ≤ m)]
      have := ih (n / b) (Nat.div_lt_self (by omega) (by omega)) (m / b) (Nat.div_le_div_right h)
      omega
theorem nd_one {b n : Nat} (hb : 2 ≤ b) (h : nd b n = 1) : n < b := by
  rcases Nat.lt_or_ge n b with h1 | h1
  · exact h1
  · rw [nd_ge hb h1] at h
    have := nd_pos b (n / b)
    omega

theorem DecfieldOrder_c (n m : Int) (oct : Bool) (hn : n < 9223372036854775808) (hm : m < 9223372036854775808) (σ : Store) : ACalls E 6 [.c (.int .i64 n), .c (.int .i64 m), .c (.bool oct)] σ fun r σ' => r = .c (.bool true) ∧ σ' = σ := by
  refine ACalls.enter Try.func6 rfl Try.ntmps6 Try.results6 (by simp) fun hσ => ?_
  refine AW.stepL [] [0, 1, 2] fun K hK => ?_
  simp
  refine hK _ _ ?_; clear hK
  refine AW.seqL [0, 1, 2] fun K1 hK1 => ?_
  refine AW.stepL [] [0, 1, 2, 21] fun K hK => ?_
  simp
  refine (awake_c σ).mono ?_
  rintro r σ' ⟨rfl, rfl⟩
  by_cases hbad : n < 0 ∨ m < n
  · have : K [(0, .c (.int .i64 n)), (1, .c (.int .i64 m)), (2, .c (.bool oct)), (21, .c (.bool true))] σ' := by
      refine hK _ _ (AW.cond (b := true) (by simp) (fun _ => ?_) (fun h => by cases h)); clear hK
      refine AW.stepL [] [6] fun K hK => ?_
      simp
      refine (awake_c σ').mono ?_
      rintro r σ ⟨rfl, rfl⟩
      simp
      refine hK _ _ ?_; clear hK
      refine AW.ret ?_
      simp
      exact Fin.same (Nat.le_refl _) ⟨rfl, rfl⟩
    by_cases h0 : n < 0
    · simp [h0]; exact this
    · have h1 : m < n := by omega
      simp [h0, h1]; exact this
  · have h0 : ¬ n < 0 := by omega
    have h1 : ¬ m < n := by omega
    simp [h0, h1]
    refine hK _ _ (AW.cond (b := false) (by simp) (fun h => by cases h) (fun _ => AW.skip ?_)); clear hK
    simp
    refine hK1 _ _ ?_; clear hK1
    refine AW.stepL [] [0, 1, 2, 7] fun K hK => ?_
    simp
    refine hK _ _ ?_; clear hK
    refine AW.seqL [0, 1, 7] fun K2 hK2 => ?_
    obtain ⟨p, rfl⟩ : ∃ p : Nat, n = p := ⟨n.toNat, by omega⟩
    obtain ⟨q, rfl⟩ : ∃ q : Nat, m = q := ⟨m.toNat, by omega⟩
    have main : ∀ c : Nat, c = 8 ∨ c = 10 → K2 [(0, .c (.int .i64 p)), (1, .c (.int .i64 q)), (7, .c (.int .i64 c))] σ' := by
      intro c hc
      have hdp : dgs p c = nd c p := by rw [dgs, if_neg (by omega)]; rfl
      have hdq : dgs q c = nd c q := by rw [dgs, if_neg (by omega)]; rfl
      have hmono := nd_mono c (by omega) p q (by omega)
      have hnd21 := nd_le c p (by omega) (by omega)
      have hnp := nd_pos c p
      refine hK2 _ _ ?_; clear hK2
      refine AW.stepL [] [0, 1, 7, 8] fun K hK => ?_
      simp
      refine (Digits_c p c (by omega) σ').mono ?_
      rintro r σ ⟨rfl, rfl⟩
      simp [hdp]
      refine hK _ _ ?_; clear hK
      refine AW.stepL [] [0, 1, 7, 8, 9] fun K hK => ?_
      simp
      refine hK _ _ ?_; clear hK
      refine AW.seqL [0, 1, 7, 8, 9] fun K3 hK3 => ?_
      refine AW.stepL [] [0, 1, 7, 8, 9, 10] fun K hK => ?_
      simp
      refine hK _ _ ?_; clear hK
      refine AW.block ?_
      refine AW.loopS (ι := Nat × Nat) (fun x => [(0, .c (.int .i64 p)), (1, .c (.int .i64 q)), (7, .c (.int .i64 c)), (8, .c (.int .i64 (nd c p))), (9, .c (.int .i64 x.1)), (10, .c (.int .i64 x.2))]) (fun _ => σ) (fun x => nd c x.1 + x.2 = nd c p + 1 ∧ x.1 ≤ p ∧ (1 ≤ x.1 ∨ p = 0)) (fun x => nd c p - x.2) (p, 1) (fun _ _ => Nat.le_refl _) (by simp; omega) rfl (by simp [Knows]) ?_
      rintro ⟨k, i⟩ ⟨h2, h3, h4⟩
      simp only at h2 h3 h4
      have hkp := nd_pos c k
      refine AW.seqL [0, 1, 7, 8, 9, 10] fun K4 hK4 => ?_
      refine AW.stepL [] [0, 1, 7, 8, 9, 10, 30] fun K hK => ?_
      simp
      refine hK _ _ ?_; clear hK
      refine AW.cond (hb := by simp; rfl) (fun hlt => ?_) (fun hlt => ?_)
      · simp at hlt
        have hck : c ≤ k := by
          rcases Nat.lt_or_ge k c with h | h
          · rw [nd_lt h] at h2; omega
          · exact h
        have hnk := nd_ge (b := c) (by omega) hck
        have hq : (k : Int) / (c : Int) = ((k / c : Nat) : Int) := rfl
        have hdl : k / c ≤ k := Nat.div_le_self k c
        have h1k : 1 ≤ k / c := by rw [Nat.le_div_iff_mul_le (by omega)]; omega
        have hc0 : c ≠ 0 := by omega
        generalize k / c = e at hnk hq hdl h1k
        refine AW.skip ?_
        simp
        refine hK4 _ _ ?_; clear hK4
        refine AW.seqL [0, 1, 7, 8, 9, 10] fun K5 hK5 => ?_
        refine AW.block ?_
        refine AW.region (ow := []) ?_
        simp (disch := omega) [wrap64_id, hc0, hq]
        refine hK5 _ _ ?_; clear hK5
        refine AW.region (ow := []) ?_
        simp (disch := omega) [wrap64_id]
        refine ⟨e, i + 1, ⟨by omega, by omega, .inl h1k⟩, by simp [Knows], by omega⟩
      · simp at hlt
        have hk1 : nd c k = 1 := by omega
        have hkc := nd_one (by omega) hk1
        refine AW.exit ?_
        simp
        refine hK3 _ _ ?_; clear hK3
        refine AW.stepL [] [6] fun K hK => ?_
        simp
        refine (Digits_c q c (by omega) σ).mono ?_
        rintro r σ' ⟨rfl, rfl⟩
        have fin : K [(6, .c (.bool true))] σ' := by
          refine hK _ _ ?_; clear hK
          refine AW.ret ?_
          simp
          exact Fin.same (Nat.le_refl _) ⟨rfl, rfl⟩
        by_cases hk0 : 0 < k
        · simp [hdq, hmono, hkc, hk0]
          exact fin
        · have hp0 : p = 0 := by omega
          have hd1 : nd c p = 1 := by rw [hp0]; exact nd_lt (by omega)
          have hq1 : (1 : Int) ≤ (nd c q : Int) := by have := nd_pos c q; omega
          rw [hd1]
          simp [hdq, hq1, hkc, hk0, hp0]
          exact fin
    refine AW.stepL [] [0, 1, 7, 23] fun K hK => ?_
    simp
    refine hK _ _ ?_; clear hK
    refine AW.cond (hb := by simp; rfl) (fun ho => ?_) (fun ho => ?_)
    · refine AW.region (ow := []) ?_
      simp
      exact main 8 (.inl rfl)
    · refine AW.skip ?_
      simp
      exact main 10 (.inr rfl)
end Go.Proofs.Ytoipkcljmlfobaa
