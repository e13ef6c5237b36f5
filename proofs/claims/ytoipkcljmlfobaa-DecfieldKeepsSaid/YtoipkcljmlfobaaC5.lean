/- The laws that a number that fits is read back from its field, and that a field that is accepted is the field of its number: what they compute on every argument. No condition. -/
import Derived.Test.YtoipkcljmlfobaaC4
set_option linter.unusedVariables false
set_option linter.unusedSimpArgs false
namespace Go.Proofs.Ytoipkcljmlfobaa
open Go Go.AW
set_option maxRecDepth 100000
set_option maxHeartbeats 8000000

theorem parse_fmt (n c w : Nat) (hc : c = 8 ∨ c = 10) (hw : 1 ≤ w ∧ w ≤ 18) (hd : nd c n ≤ w) :
    fmtE n c w = 0 ∧ fmtL n c w = tx c n ++ List.replicate (w - nd c n) 32 ∧ (fmtL n c w).length = w ∧ prsE (fmtL n c w) c = 0 ∧ prsN (fmtL n c w) c = n := by
  have hE : fmtE n c w = 0 := by
    rw [fmtE, if_neg (by omega), if_neg]
    simp; omega
  have hL : fmtL n c w = tx c n ++ List.replicate (w - nd c n) 32 := by rw [fmtL, if_pos hE]; simp
  have hlen : (fmtL n c w).length = w := by rw [hL, List.length_append, tx_len, List.length_replicate]; omega
  have hc2 : 2 ≤ c ∧ c ≤ 10 := by omega
  have hld : ld c (fmtL n c w) = tx c n := by
    rw [hL]
    refine ld_append c _ _ (tx_isd c n hc2) fun y hy => ?_
    have := List.mem_of_getElem? hy
    rw [List.mem_replicate] at this
    rw [this.2]; exact isd_space c hc2.2
  have hok : okf c (fmtL n c w) := by
    refine (okf_iff c _ hc (by omega)).2 ⟨?_, ?_, ?_⟩
    · rw [hld]; intro e
      have := congrArg List.length e
      rw [tx_len] at this
      have := nd_pos c n
      simp at *; omega
    · rw [hld, vl_tx c n hc2, hlen]; exact hE
    · rw [hld, vl_tx c n hc2, hlen]
  have hP : prsE (fmtL n c w) c = 0 := by rw [prsE, if_neg (by omega), if_pos (by simpa using hok)]
  refine ⟨hE, hL, hlen, hP, ?_⟩
  rw [prsN, if_pos hP]
  have : (c : Int).toNat = c := rfl
  rw [this, hld, vl_tx c n hc2]

theorem DecfieldRoundTrip_c (n : Int) (oct : Bool) (u : Int) (hn : n < 9223372036854775808) (hu : 0 ≤ u ∧ u ≤ 255) (σ : Store) : ACalls E 4 [.c (.int .i64 n), .c (.bool oct), .c (.int .u8 u)] σ fun r σ' => r = .c (.bool true) ∧ σ' = σ := by
  refine ACalls.enter Try.func4 rfl Try.ntmps4 Try.results4 (by simp) fun hσ => ?_
  refine AW.stepL [] [0, 1, 2] fun K hK => ?_
  simp
  refine hK _ _ ?_; clear hK
  refine AW.seqL [0, 1, 2] fun K1 hK1 => ?_
  refine AW.stepL [] [0, 1, 2, 14] fun K hK => ?_
  simp
  refine (awake_c σ).mono ?_
  rintro r σ' ⟨rfl, rfl⟩
  simp
  refine hK _ _ ?_; clear hK
  refine AW.cond (hb := by simp; rfl) (fun h => by cases h) (fun _ => AW.skip ?_)
  simp
  refine hK1 _ _ ?_; clear hK1
  refine AW.stepL [] [0, 1, 2, 7] fun K hK => ?_
  simp
  refine hK _ _ ?_; clear hK
  refine AW.seqL [0, 2, 7] fun K2 hK2 => ?_
  have main : ∀ c : Nat, c = 8 ∨ c = 10 → K2 [(0, .c (.int .i64 n)), (2, .c (.int .u8 u)), (7, .c (.int .i64 c))] σ' := by
    intro c hc
    refine hK2 _ _ ?_; clear hK2
    obtain ⟨v, rfl⟩ : ∃ v : Nat, u = v := ⟨u.toNat, by omega⟩
    have hv : v % 18 < 18 := Nat.mod_lt _ (by omega)
    have hm : (v : Int).tmod 18 = ((v % 18 : Nat) : Int) := rfl
    generalize v % 18 = q at hv hm
    obtain ⟨w, hwq⟩ : ∃ w : Nat, w = 1 + q := ⟨_, rfl⟩
    have hval : 1 + (v : Int).tmod 18 = (w : Int) := by rw [hm]; omega
    refine AW.stepL [] [0, 7, 8] fun K hK => ?_
    simp (disch := omega) [wrap64_id]
    first | rw [hval] | (rw [hval, wrap64_id (by omega) (by omega)])
    refine hK _ _ ?_; clear hK
    refine AW.stepL [] [0, 7, 8, 9, 10] fun K hK => ?_
    simp
    refine (Format_s n c w hn σ').mono ?_
    rintro r σ ⟨rfl, rfl⟩
    simp
    refine hK _ _ ?_; clear hK
    refine AW.seqL [0, 7, 8, 9, 10] fun K3 hK3 => ?_
    refine AW.stepL [] [0, 7, 8, 9, 10, 35] fun K hK => ?_
    by_cases hbad : n < 0 ∨ w < nd c n.toNat
    · have hE : fmtE n c w = 9 := by
        rw [fmtE, if_neg (by omega), if_pos]
        rcases hbad with h | h
        · exact .inl h
        · refine .inr ?_
          have : (c : Int).toNat = c := rfl
          rw [this]; omega
      have hL : fmtL n c w = [] := by rw [fmtL, if_neg (by omega)]
      have : K [(0, .c (.int .i64 n)), (7, .c (.int .i64 c)), (8, .c (.int .i64 w)), (9, byts (fmtL n c w)), (10, .c (.int .i64 (fmtE n c w))), (35, .c (.bool true))] σ := by
        refine hK _ _ (AW.cond (b := true) (by simp) (fun _ => ?_) (fun h => by cases h)); clear hK
        refine AW.stepL [] [6] fun K hK => ?_
        simp [hE, hL]
        refine hK _ _ ?_; clear hK
        refine AW.ret ?_
        simp
        exact Fin.same (Nat.le_refl _) ⟨rfl, rfl⟩
      simp at this
      by_cases h0 : n < 0
      · simp [h0]; exact this
      · have hd : dgs n c = nd c n.toNat := by rw [dgs, if_neg (by omega)]; rfl
        have hlt : w < nd c n.toNat := by omega
        simp [h0]
        refine (Digits_c n c hn σ).mono ?_
        rintro r σ' ⟨rfl, rfl⟩
        simp [h0, hd, hlt]; exact this
    · obtain ⟨p, rfl⟩ : ∃ p : Nat, n = p := ⟨n.toNat, by omega⟩
      have h0 : ¬ (p : Int) < 0 := by omega
      have hd : dgs p c = nd c p := by rw [dgs, if_neg (by omega)]; rfl
      have hle : nd c p ≤ w := by simp at hbad; omega
      have hlt : ¬ w < nd c p := by omega
      obtain ⟨f1, f2, f3, f4, f5⟩ := parse_fmt p c w hc (by omega) hle
      simp [h0]
      refine (Digits_c p c hn σ).mono ?_
      rintro r σ' ⟨rfl, rfl⟩
      simp [h0, hd, hlt]
      refine hK _ _ (AW.cond (b := false) (by simp) (fun h => by cases h) (fun _ => AW.skip ?_)); clear hK
      simp
      refine hK3 _ _ ?_; clear hK3
      rw [f1]
      generalize fmtL p c w = F at *
      refine AW.stepL [] [0, 8, 9, 10, 11, 12] fun K hK => ?_
      simp
      refine (Parse_c F c (by omega) σ').mono ?_
      rintro r σ ⟨rfl, rfl⟩
      rw [f4, f5]
      simp
      refine hK _ _ ?_; clear hK
      refine AW.stepL [] [6] fun K hK => ?_
      simp [f3]
      refine hK _ _ ?_; clear hK
      refine AW.ret ?_
      simp
      exact Fin.same (Nat.le_refl _) ⟨rfl, rfl⟩
  refine AW.stepL [] [0, 2, 7, 15] fun K hK => ?_
  simp
  refine hK _ _ ?_; clear hK
  refine AW.cond (hb := by simp; rfl) (fun ho => ?_) (fun ho => ?_)
  · refine AW.region (ow := []) ?_
    simp
    exact main 8 (.inl rfl)
  · refine AW.skip ?_
    simp
    exact main 10 (.inr rfl)
theorem ld_len (b : Nat) (l : List UInt8) : (ld b l).length ≤ l.length := by
  have := congrArg List.length (ld_split b l)
  simp at this; omega
theorem vl_ld (c : Nat) (hc : c = 8 ∨ c = 10) (l : List UInt8) (hl : l.length ≤ 18) : vl c (ld c l) < 1000000000000000001 := by
  have h1 := vl_lt c (by omega) (ld c l) (ld_isd c l)
  have h2 : c ^ (ld c l).length ≤ 10 ^ (ld c l).length := Nat.pow_le_pow_left (by omega) _
  have h3 : 10 ^ (ld c l).length ≤ 10 ^ 18 := Nat.pow_le_pow_right (by omega) (Nat.le_trans (ld_len c l) hl)
  omega

theorem DecfieldUnique_c (l : List UInt8) (oct : Bool) (hl : l.length ≤ 9223372036854775807) (σ : Store) : ACalls E 5 [byts l, .c (.bool oct)] σ fun r σ' => r = .c (.bool true) ∧ σ' = σ := by
  refine ACalls.enter Try.func5 rfl Try.ntmps5 Try.results5 (by simp) fun hσ => ?_
  refine AW.stepL [] [0, 1] fun K hK => ?_
  simp
  refine hK _ _ ?_; clear hK
  refine AW.seqL [0, 1] fun K1 hK1 => ?_
  refine AW.stepL [] [0, 1, 16] fun K hK => ?_
  simp
  refine (awake_c σ).mono ?_
  rintro r σ' ⟨rfl, rfl⟩
  simp
  refine hK _ _ ?_; clear hK
  refine AW.cond (hb := by simp; rfl) (fun hb => ?_) (fun hb => ?_)
  · simp at hb
    refine AW.stepL [] [4] fun K hK => ?_
    simp
    refine (awake_c σ').mono ?_
    rintro r σ ⟨rfl, rfl⟩
    simp
    refine hK _ _ ?_; clear hK
    refine AW.ret ?_
    simp
    exact Fin.same (Nat.le_refl _) ⟨rfl, rfl⟩
  simp at hb
  refine AW.skip ?_
  simp
  refine hK1 _ _ ?_; clear hK1
  refine AW.stepL [] [0, 1, 5] fun K hK => ?_
  simp
  refine hK _ _ ?_; clear hK
  refine AW.seqL [0, 5] fun K2 hK2 => ?_
  have main : ∀ c : Nat, c = 8 ∨ c = 10 → K2 [(0, byts l), (5, .c (.int .i64 c))] σ' := by
    intro c hc
    refine hK2 _ _ ?_; clear hK2
    refine AW.stepL [] [0, 5, 6, 7] fun K hK => ?_
    simp
    refine (Parse_c l c hl σ').mono ?_
    rintro r σ ⟨rfl, rfl⟩
    simp
    refine hK _ _ ?_; clear hK
    refine AW.seqL [0, 5, 6] fun K3 hK3 => ?_
    refine AW.stepL [] [0, 5, 6, 7, 26] fun K hK => ?_
    simp
    refine hK _ _ ?_; clear hK
    by_cases hbad : l.length < 1 ∨ 18 < l.length
    · have hE : prsE l c = 13 := by rw [prsE, if_pos (.inr hbad)]
      have hN : prsN l c = 0 := by rw [prsN, if_neg (by omega)]
      rw [hE, hN]
      refine AW.cond (b := true) (by simp) (fun _ => ?_) (fun h => by cases h)
      refine AW.stepL [] [4] fun K hK => ?_
      have fin : K [(4, .c (.bool true))] σ := by
        refine hK _ _ ?_; clear hK
        refine AW.ret ?_
        simp
        exact Fin.same (Nat.le_refl _) ⟨rfl, rfl⟩
      by_cases h0 : l = []
      · subst h0; simp; exact fin
      · have h18 : (18 : Int) < l.length := by have := List.length_pos_iff.2 h0; omega
        simp [h0, h18]; exact fin
    · have hg : ¬ (¬ ((c : Int) = 8 ∨ (c : Int) = 10) ∨ l.length < 1 ∨ 18 < l.length) := by omega
      by_cases hok : okf c l
      · have hE : prsE l c = 0 := by rw [prsE, if_neg hg, if_pos (by simpa using hok)]
        have hN : prsN l c = vl c (ld c l) := by rw [prsN, if_pos hE]; rfl
        obtain ⟨_, k2, k3⟩ := (okf_iff c l hc (by omega)).1 hok
        have hv := vl_ld c hc l (by omega)
        rw [hE, hN]
        generalize vl c (ld c l) = v at *
        refine AW.cond (b := false) (by simp) (fun h => by cases h) (fun _ => AW.skip ?_)
        simp
        refine hK3 _ _ ?_; clear hK3
        refine AW.stepL [] [0, 6, 8, 9] fun K hK => ?_
        simp
        refine (Format_s v c l.length (by omega) σ).mono ?_
        rintro r σ' ⟨rfl, rfl⟩
        rw [k2, k3]
        simp
        refine hK _ _ ?_; clear hK
        refine AW.stepL [] [4] fun K hK => ?_
        have hv0 : (0 : Int) ≤ v := by omega
        simp [hv0]
        refine (Same_c l l hl σ').mono ?_
        rintro r σ ⟨rfl, rfl⟩
        simp
        refine hK _ _ ?_; clear hK
        refine AW.ret ?_
        simp
        exact Fin.same (Nat.le_refl _) ⟨rfl, rfl⟩
      · have hE : prsE l c = 3 := by rw [prsE, if_neg hg, if_neg (by simpa using hok)]
        have hN : prsN l c = 0 := by rw [prsN, if_neg (by omega)]
        rw [hE, hN]
        refine AW.cond (b := true) (by simp) (fun _ => ?_) (fun h => by cases h)
        refine AW.stepL [] [4] fun K hK => ?_
        simp
        refine hK _ _ ?_; clear hK
        refine AW.ret ?_
        simp
        exact Fin.same (Nat.le_refl _) ⟨rfl, rfl⟩
  refine AW.stepL [] [0, 5, 18] fun K hK => ?_
  simp
  refine hK _ _ ?_; clear hK
  refine AW.cond (hb := by simp; rfl) (fun ho => ?_) (fun ho => ?_)
  · refine AW.region (ow := []) ?_
    simp
    exact main 8 (.inl rfl)
  · refine AW.skip ?_
    simp
    exact main 10 (.inr rfl)
end Go.Proofs.Ytoipkcljmlfobaa
