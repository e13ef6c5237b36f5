/- The law that all functions of layer 1 return what the reference returns: what it computes on every argument. No condition. -/
import Derived.Test.YtoipkcljmlfobaaC5
set_option linter.unusedVariables false
set_option linter.unusedSimpArgs false
namespace Go.Proofs.Ytoipkcljmlfobaa
open Go Go.AW
set_option maxRecDepth 100000
set_option maxHeartbeats 8000000

/-- Are the first bytes spaces? -/
def bl32 (l : List UInt8) (x : Nat) : Bool := (l.take x).all (· == 32)
theorem bl32_zero (l : List UInt8) : bl32 l 0 = true := rfl
theorem bl32_all (l : List UInt8) (x : Nat) (h : l.length ≤ x) : bl32 l x = l.all (· == 32) := by rw [bl32, List.take_of_length_le h]

theorem DecfieldMatchesReference_c (n b w : Int) (l : List UInt8) (hn : n < 9223372036854775808) (hl : l.length ≤ 9223372036854775807) (σ : Store) : ACalls E 3 [.c (.int .i64 n), .c (.int .i64 b), .c (.int .i64 w), byts l] σ fun r σ' => r = .c (.bool true) ∧ σ' = σ := by
  refine ACalls.enter Try.func3 rfl Try.ntmps3 Try.results3 (by simp) fun hσ => ?_
  refine AW.stepL [] [0, 1, 2, 3] fun K hK => ?_
  simp
  refine hK _ _ ?_; clear hK
  refine AW.seqL [0, 1, 2, 3] fun K1 hK1 => ?_
  refine AW.stepL [] [0, 1, 2, 3, 26] fun K hK => ?_
  simp
  refine (awake_c σ).mono ?_
  rintro r σ' ⟨rfl, rfl⟩
  simp
  refine hK _ _ ?_; clear hK
  refine AW.cond (hb := by simp; rfl) (fun hb => ?_) (fun hb => ?_)
  · simp at hb
    refine AW.stepL [] [8] fun K hK => ?_
    simp
    refine (awake_c σ').mono ?_
    rintro r σ ⟨rfl, rfl⟩
    simp
    refine hK _ _ ?_; clear hK
    refine AW.ret ?_
    simp
    exact Fin.same (Nat.le_refl _) ⟨rfl, rfl⟩
  simp at hb
  refine AW.skip ?_
  simp
  refine hK1 _ _ ?_; clear hK1
  refine AW.stepL [] [0, 1, 2, 3, 9, 10] fun K hK => ?_
  simp
  refine (Format_s n b w hn σ').mono ?_
  rintro r σ ⟨rfl, rfl⟩
  simp
  refine hK _ _ ?_; clear hK
  refine AW.stepL [] [0, 1, 3, 9, 10, 11, 12] fun K hK => ?_
  simp
  refine (rFormat_c n b w hn σ).mono ?_
  rintro r σ' ⟨rfl, rfl⟩
  simp
  refine hK _ _ ?_; clear hK
  generalize hF : fmtL n b w = F
  generalize fmtE n b w = G
  have hFl : F.length ≤ 9223372036854775807 := by
    rw [← hF]; unfold fmtL
    split
    · rename_i h
      have hb : b = 8 ∨ b = 10 := by
        unfold fmtE at h
        split at h
        · omega
        · omega
      have := nd_le b.toNat n.toNat (by omega) (by omega)
      rw [List.length_append, tx_len, List.length_replicate]
      unfold fmtE at h
      split at h
      · omega
      · omega
    · simp
  refine AW.stepL [] [0, 1, 3, 9, 10, 11, 12, 13, 14] fun K hK => ?_
  simp
  refine (Parse_c l b hl σ').mono ?_
  rintro r σ ⟨rfl, rfl⟩
  simp
  refine hK _ _ ?_; clear hK
  refine AW.stepL [] [0, 1, 3, 9, 10, 11, 12, 13, 14, 15, 16] fun K hK => ?_
  simp
  refine (rParse_c l b hl σ).mono ?_
  rintro r σ' ⟨rfl, rfl⟩
  simp
  refine hK _ _ ?_; clear hK
  generalize prsN l b = N
  generalize prsE l b = M
  refine AW.stepL [] [0, 1, 3, 9, 10, 11, 12, 13, 14, 15, 16, 17] fun K hK => ?_
  simp
  refine hK _ _ ?_; clear hK
  refine AW.seqL [0, 1, 3, 9, 10, 11, 12, 13, 14, 15, 16, 17] fun K2 hK2 => ?_
  have main : K2 [(0, .c (.int .i64 n)), (1, .c (.int .i64 b)), (3, byts l), (9, byts F), (10, .c (.int .i64 G)), (11, byts F), (12, .c (.int .i64 G)), (13, .c (.int .i64 N)), (14, .c (.int .i64 M)), (15, .c (.int .i64 N)), (16, .c (.int .i64 M)), (17, .c (.int .i64 (dgs n b)))] σ' := by
    refine hK2 _ _ ?_; clear hK2
    refine AW.stepL [] [0, 1, 3, 9, 10, 11, 12, 13, 14, 15, 16, 17, 18] fun K hK => ?_
    simp
    refine hK _ _ ?_; clear hK
    refine AW.seqL [0, 1, 3, 9, 10, 11, 12, 13, 14, 15, 16, 17, 18] fun K3 hK3 => ?_
    refine AW.stepL [] [0, 1, 3, 9, 10, 11, 12, 13, 14, 15, 16, 17, 18, 19] fun K hK => ?_
    simp
    refine hK _ _ ?_; clear hK
    refine AW.block ?_
    refine AW.loopS (ι := Nat) (fun x => [(0, .c (.int .i64 n)), (1, .c (.int .i64 b)), (3, byts l), (9, byts F), (10, .c (.int .i64 G)), (11, byts F), (12, .c (.int .i64 G)), (13, .c (.int .i64 N)), (14, .c (.int .i64 M)), (15, .c (.int .i64 N)), (16, .c (.int .i64 M)), (17, .c (.int .i64 (dgs n b))),
      (18, .c (.bool (bl32 l x))), (19, .c (.int .i64 x))]) (fun _ => σ') (fun x => x ≤ l.length) (fun x => l.length - x) 0 (fun _ _ => Nat.le_refl _) (by simp) rfl (by simp [Knows, bl32_zero]) ?_
    rintro x hx
    refine AW.seqL [0, 1, 3, 9, 10, 11, 12, 13, 14, 15, 16, 17, 18, 19] fun K4 hK4 => ?_
    refine AW.stepL [] [0, 1, 3, 9, 10, 11, 12, 13, 14, 15, 16, 17, 18, 19, 67] fun K hK => ?_
    simp
    refine hK _ _ ?_; clear hK
    refine AW.cond (hb := by simp; rfl) (fun hlt => ?_) (fun hlt => ?_)
    · simp at hlt
      obtain ⟨d, hd⟩ := get_ex hlt
      have hd2 : l[x]'hlt = d := by rw [List.getElem?_eq_getElem hlt] at hd; exact Option.some.inj hd
      have hall : bl32 l (x + 1) = (bl32 l x && (d == 32)) := by
        unfold bl32
        rw [List.take_add_one, hd, List.all_append]; simp
      have hd32 : ((d.toNat : Int) == 32) = (d == 32) := u8_eq d 32
      refine AW.skip ?_
      simp
      refine hK4 _ _ ?_; clear hK4
      refine AW.seqL [0, 1, 3, 9, 10, 11, 12, 13, 14, 15, 16, 17, 18, 19] fun K5 hK5 => ?_
      refine AW.block ?_
      refine AW.region (ow := []) ?_
      have next : ∀ A : Bool, A = bl32 l (x + 1) → K5 [(0, .c (.int .i64 n)), (1, .c (.int .i64 b)), (3, byts l), (9, byts F), (10, .c (.int .i64 G)), (11, byts F), (12, .c (.int .i64 G)), (13, .c (.int .i64 N)), (14, .c (.int .i64 M)), (15, .c (.int .i64 N)), (16, .c (.int .i64 M)), (17, .c (.int .i64 (dgs n b))), (18, .c (.bool A)), (19, .c (.int .i64 x))] σ' := by
        rintro A rfl
        refine hK5 _ _ ?_; clear hK5
        refine AW.region (ow := []) ?_
        have hw : IntKind.i64.wrap ((x : Int) + 1) = (x : Int) + 1 := wrap64_id (by omega) (by omega)
        simp [hw]
        exact ⟨x + 1, hlt, by simp [Knows], by omega⟩
      generalize bl32 l x = A at hall ⊢
      cases A with
      | false =>
        simp
        simpa using next false (by rw [hall]; rfl)
      | true =>
        simp [hd, hd2]
        simpa [hd32] using next (d == 32) (by rw [hall]; simp)
    · simp at hlt
      refine AW.exit ?_
      simp
      refine hK3 _ _ ?_; clear hK3
      rw [bl32_all l x (by omega)]
      refine AW.stepL [] [8] fun K hK => ?_
      simp
      refine (Same_c F F hFl σ').mono ?_
      rintro r σ ⟨rfl, rfl⟩
      simp
      refine (Digits_c n b hn σ).mono ?_
      rintro r σ' ⟨rfl, rfl⟩
      simp
      refine (Blank_c l hl σ').mono ?_
      rintro r σ ⟨rfl, rfl⟩
      simp
      refine hK _ _ ?_; clear hK
      refine AW.ret ?_
      simp
      exact Fin.same (Nat.le_refl _) ⟨rfl, rfl⟩
  simp at main
  refine AW.stepL [] [0, 1, 3, 9, 10, 11, 12, 13, 14, 15, 16, 17, 59] fun K hK => ?_
  have no : dgs n b = 0 → K [(0, .c (.int .i64 n)), (1, .c (.int .i64 b)), (3, .ps (l.map byteV)), (9, .ps (F.map byteV)), (10, .c (.int .i64 G)), (11, .ps (F.map byteV)), (12, .c (.int .i64 G)), (13, .c (.int .i64 N)), (14, .c (.int .i64 M)), (15, .c (.int .i64 N)), (16, .c (.int .i64 M)), (17, .c (.int .i64 0)), (59, .c (.bool false))] σ' := by
    intro h0
    refine hK _ _ (AW.cond (b := false) (by simp) (fun h => by cases h) (fun _ => AW.skip ?_)); clear hK
    simp
    rw [h0] at main
    exact main
  by_cases h0 : n < 0
  · have h1 : ¬ 0 ≤ n := by omega
    simp [h0, h1]
    exact no (by rw [dgs, if_pos (.inl h0)])
  · have h1 : 0 ≤ n := by omega
    simp [h0, h1]
    refine (Based_c b σ').mono ?_
    rintro r σ ⟨rfl, rfl⟩
    by_cases hb : b = 8 ∨ b = 10
    · have hb' : (b == 8 || b == 10) = true := by simpa using hb
      simp [h0, h1, hb']
      refine hK _ _ (AW.cond (b := true) (by simp) (fun _ => ?_) (fun h => by cases h)); clear hK
      obtain ⟨p, rfl⟩ : ∃ p : Nat, n = p := ⟨n.toNat, by omega⟩
      obtain ⟨c, rfl⟩ : ∃ c : Nat, b = c := ⟨b.toNat, by omega⟩
      have hd : dgs p c = nd c p := by rw [dgs, if_neg (by omega)]; rfl
      refine AW.region (ow := []) ?_
      simp
      refine (Text_c c p (by omega) (by omega) σ).mono ?_
      rintro r σ' ⟨rfl, rfl⟩
      simp
      rw [tx_len, ← hd]
      exact main
    · have hb' : (b == 8 || b == 10) = false := by simpa using hb
      simp [h0, h1, hb']
      exact no (by rw [dgs, if_pos (.inr hb)])
end Go.Proofs.Ytoipkcljmlfobaa
