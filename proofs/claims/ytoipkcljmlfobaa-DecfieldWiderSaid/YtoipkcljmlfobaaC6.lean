/- The law that a wider field has the same digits, followed by more spaces: what it computes on every argument. No condition. -/
import Derived.Test.YtoipkcljmlfobaaC5
set_option linter.unusedVariables false
set_option linter.unusedSimpArgs false
namespace Go.Proofs.Ytoipkcljmlfobaa
open Go Go.AW
set_option maxRecDepth 100000
set_option maxHeartbeats 8000000

theorem DecfieldWider_c (n u t : Int) (hn : n < 9223372036854775808) (hu : 0 ≤ u ∧ u ≤ 255) (ht : 0 ≤ t ∧ t ≤ 255) (σ : Store) : ACalls E 8 [.c (.int .i64 n), .c (.int .u8 u), .c (.int .u8 t)] σ fun r σ' => r = .c (.bool true) ∧ σ' = σ := by
  refine ACalls.enter Try.func8 rfl Try.ntmps8 Try.results8 (by simp) fun hσ => ?_
  refine AW.stepL [] [0, 1, 2] fun K hK => ?_
  simp
  refine hK _ _ ?_; clear hK
  refine AW.seqL [0, 1, 2] fun K1 hK1 => ?_
  refine AW.stepL [] [0, 1, 2, 14] fun K hK => ?_
  simp
  refine (awake_c σ).mono ?_
  rintro r σ' ⟨rfl, rfl⟩
  simp
  refine hK _ _ ?_; clear hK
  refine AW.cond (hb := by simp; rfl) (fun h => by cases h) (fun _ => AW.skip ?_)
  simp
  refine hK1 _ _ ?_; clear hK1
  obtain ⟨u, rfl⟩ : ∃ v : Nat, u = v := ⟨u.toNat, by omega⟩
  obtain ⟨t, rfl⟩ : ∃ v : Nat, t = v := ⟨t.toNat, by omega⟩
  have hu2 : u % 18 < 18 := Nat.mod_lt _ (by omega)
  have hmu : (u : Int).tmod 18 = ((u % 18 : Nat) : Int) := rfl
  have ht2 : t % 18 < 18 := Nat.mod_lt _ (by omega)
  have hmt : (t : Int).tmod 18 = ((t % 18 : Nat) : Int) := rfl
  generalize u % 18 = a at hu2 hmu
  generalize t % 18 = b at ht2 hmt
  obtain ⟨w, hw⟩ : ∃ w : Nat, w = 1 + a := ⟨_, rfl⟩
  have hw1 : 1 + (u : Int).tmod 18 = (w : Int) := by rw [hmu]; omega
  refine AW.stepL [] [0, 2, 7] fun K hK => ?_
  simp (disch := omega) [wrap64_id]
  rw [hw1]
  refine hK _ _ ?_; clear hK
  obtain ⟨v, hv, hvle⟩ : ∃ v : Nat, (if (18 : Int) < w + (t : Int).tmod 18 then (18 : Int) else w + (t : Int).tmod 18) = v ∧ w ≤ v ∧ v ≤ 18 := by
    rw [hmt]
    by_cases h : (18 : Int) < w + b
    · exact ⟨18, by rw [if_pos h]; rfl, by omega, by omega⟩
    · exact ⟨w + b, by rw [if_neg h]; omega, by omega, by omega⟩
  refine AW.stepL [] [0, 7, 8] fun K hK => ?_
  simp (disch := omega) [wrap64_id]
  rw [hv]
  refine hK _ _ ?_; clear hK
  refine AW.stepL [] [0, 7, 8, 9, 10] fun K hK => ?_
  simp
  refine (Format_s n 10 w hn σ').mono ?_
  rintro r σ ⟨rfl, rfl⟩
  simp
  refine hK _ _ ?_; clear hK
  refine AW.stepL [] [7, 8, 9, 10, 11, 12] fun K hK => ?_
  simp
  refine (Format_s n 10 v hn σ).mono ?_
  rintro r σ' ⟨rfl, rfl⟩
  simp
  refine hK _ _ ?_; clear hK
  refine AW.seqL [7, 8, 9, 11, 12] fun K2 hK2 => ?_
  refine AW.stepL [] [7, 8, 9, 11, 12, 38] fun K hK => ?_
  simp
  refine hK _ _ ?_; clear hK
  by_cases hE : fmtE n 10 w = 0
  · obtain ⟨p, rfl⟩ : ∃ p : Nat, n = p := ⟨n.toNat, by
      unfold fmtE at hE
      split at hE
      · omega
      · split at hE
        · omega
        · rename_i h; omega⟩
    have hnd : nd 10 p ≤ w := by
      unfold fmtE at hE
      split at hE
      · omega
      · split at hE
        · omega
        · rename_i h; simp at h; omega
    obtain ⟨f1, f2, f3, _, _⟩ := parse_fmt p 10 w (.inr rfl) (by omega) hnd
    obtain ⟨g1, g2, g3, _, _⟩ := parse_fmt p 10 v (.inr rfl) (by omega) (by omega)
    have c10 : ((10 : Nat) : Int) = 10 := rfl
    rw [c10] at f1 f2 f3 g1 g2 g3
    have hlt : (tx 10 p).length = nd 10 p := tx_len 10 p
    have htake : (fmtL p 10 v).take w = fmtL p 10 w := by
      rw [g2, f2, List.take_append, List.take_of_length_le (by omega), List.take_replicate, hlt]
      congr 2; omega
    have hdrop : (fmtL p 10 v).drop w = List.replicate (v - w) 32 := by
      rw [g2, List.drop_append, List.drop_of_length_le (by omega), List.drop_replicate, hlt]
      simp; omega
    rw [f1, g1]
    refine AW.cond (b := false) (by simp) (fun h => by cases h) (fun _ => AW.skip ?_)
    simp
    refine hK2 _ _ ?_; clear hK2
    refine AW.stepL [] [6] fun K hK => ?_
    have hwv : (w : Int) ≤ (fmtL p 10 v).length := by rw [g3]; omega
    have hs := Same_c ((fmtL p 10 v).take w) (fmtL p 10 w) (by simp; omega) σ'
    have hbl := fun σ => Blank_c ((fmtL p 10 v).drop w) (by simp; omega) σ
    simp only [byts, List.map_take, List.map_drop] at hs hbl
    simp [g3, hvle.1]
    refine hs.mono ?_
    rintro r σ ⟨rfl, rfl⟩
    have htv : List.take v (List.map byteV (fmtL p 10 v)) = List.map byteV (fmtL p 10 v) := List.take_of_length_le (by simp; omega)
    simp [htake, g3, hvle.1, htv]
    refine (hbl σ).mono ?_
    rintro r σ' ⟨rfl, rfl⟩
    have : (List.drop w (fmtL p 10 v)).all (· == 32) = true := by rw [hdrop]; simp
    simp [this]
    refine hK _ _ ?_; clear hK
    refine AW.ret ?_
    simp
    exact Fin.same (Nat.le_refl _) ⟨rfl, rfl⟩
  · have hL : fmtL n 10 w = [] := by rw [fmtL, if_neg hE]
    rw [hL]
    refine AW.cond (b := true) (by simp [hE]) (fun _ => ?_) (fun h => by cases h)
    refine AW.stepL [] [6] fun K hK => ?_
    simp
    refine hK _ _ ?_; clear hK
    refine AW.ret ?_
    simp
    exact Fin.same (Nat.le_refl _) ⟨rfl, rfl⟩
end Go.Proofs.Ytoipkcljmlfobaa
