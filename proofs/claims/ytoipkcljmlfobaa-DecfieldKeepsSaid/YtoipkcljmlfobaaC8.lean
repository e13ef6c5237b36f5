/- The law that the bytes are not modified, and that modifying a result does not change later results: what it computes on every argument. No condition. -/
import Derived.Test.YtoipkcljmlfobaaC5
set_option linter.unusedVariables false
set_option linter.unusedSimpArgs false
namespace Go.Proofs.Ytoipkcljmlfobaa
open Go Go.AW
set_option maxRecDepth 100000
set_option maxHeartbeats 8000000

theorem u8_inc (c : UInt8) : IntKind.u8.wrap ((c.toNat : Int) + 1) = ((c + 1).toNat : Int) := by
  rw [IntKind.wrap_u8, UInt8.toNat_add]; rfl

theorem none_next {σ : Store} (h : StoreBel σ) : σ.get σ.next = none := by
  cases h1 : σ.get σ.next with
  | none => rfl
  | some o => exact absurd (h _ _ h1).1 (Nat.lt_irrefl _)

theorem DecfieldKeeps_c (l : List UInt8) (n : Int) (hn : n < 9223372036854775808) (hl : l.length ≤ 9223372036854775807) (σ : Store) : ACalls E 7 [byts l, .c (.int .i64 n)] σ fun r σ' => r = .c (.bool true) ∧ σ' = σ := by
  refine ACalls.enter Try.func7 rfl Try.ntmps7 Try.results7 (by simp) fun hσ => ?_
  refine AW.stepL [] [0, 1] fun K hK => ?_
  simp
  refine hK _ _ ?_; clear hK
  refine AW.seqL [0, 1] fun K1 hK1 => ?_
  refine AW.stepL [] [0, 1, 19] fun K hK => ?_
  simp
  refine (awake_c σ).mono ?_
  rintro r σ' ⟨rfl, rfl⟩
  simp
  refine hK _ _ ?_; clear hK
  refine AW.cond (hb := by simp; rfl) (fun hb => ?_) (fun hb => ?_)
  · simp at hb
    refine AW.stepL [] [4] fun K hK => ?_
    simp
    refine (awake_c σ').mono ?_
    rintro r σ ⟨rfl, rfl⟩
    simp
    refine hK _ _ ?_; clear hK
    refine AW.ret ?_
    simp
    exact Fin.same (Nat.le_refl _) ⟨rfl, rfl⟩
  · simp at hb
    have hlI : (l.length : Int) ≤ 100 := by omega
    refine AW.skip ?_
    simp
    refine hK1 _ _ ?_; clear hK1
    refine AW.stepL [21] [0, 1, 5] fun K hK => ?_
    simp [maxLen]
    refine ⟨by omega, by omega, ?_⟩
    refine hK _ _ ?_; clear hK
    refine AW.weaken (fr [(0, byts l), (1, .c (.int .i64 n)), (5, byts l)]) σ' (Weak.some _ ⟨Nat.le_refl _, by simp, fun i o h => ?_, .inr hσ⟩ ?_) ?_
    · have := (hσ i o h).1
      simp [Nat.ne_of_lt this, h]
    · intro p hp
      simp at hp
      rcases hp with rfl | rfl | rfl
      · exact ⟨by simp, by simp; exact .refl _, .inr (by simp)⟩
      · exact ⟨by simp, by simp; exact .refl _, .inr (by simp)⟩
      · refine ⟨by simp, ?_, .inr (by simp)⟩
        simp
        exact SR.row (T := 5) (es := l.map byteV) (by simp) (none_next hσ) (by simp) (by rw [List.drop_zero, List.take_of_length_le (by simp)])
    refine AW.stepL [] [0, 1, 5] fun K hK => ?_
    simp
    refine (Parse_c l 10 hl σ').mono ?_
    rintro r σ ⟨rfl, rfl⟩
    simp
    refine hK _ _ ?_; clear hK
    refine AW.stepL [] [0, 1, 5] fun K hK => ?_
    simp
    refine (Blank_c l hl σ).mono ?_
    rintro r σ' ⟨rfl, rfl⟩
    simp
    refine hK _ _ ?_; clear hK
    refine AW.stepL [] [0, 1, 5, 6, 7] fun K hK => ?_
    simp
    have hEq : ∀ e, fmtE n 10 18 = e → fmtE n 10 18 = e := fun _ h => h
    have rest : ∀ K2 : List (Nat × AV) → Store → Prop, True → True := fun _ _ => trivial
    refine (Format_c n 10 18 hn σ').mono ?_
    rintro r σ2 hr
    have hFl : (fmtL n 10 18).length ≤ 9223372036854775807 := by
      unfold fmtL
      split
      · rename_i h
        have := nd_le 10 n.toNat (by omega) (by omega)
        rw [List.length_append, tx_len, List.length_replicate]
        show nd 10 n.toNat + (18 - nd 10 n.toNat) ≤ _
        omega
      · simp
    rcases hr with ⟨h1, rfl, rfl⟩ | ⟨h1, rfl, rfl⟩
    · have hlen : (fmtL n 10 18).length = 18 := by
        obtain ⟨hg1, hg2⟩ : ¬ n < 0 ∧ ¬ (18 : Int) < nd 10 n.toNat := by
          unfold fmtE at h1
          split at h1
          · omega
          · split at h1
            · omega
            · rename_i h; constructor
              · omega
              · intro h2; exact h (.inr h2)
        rw [fmtL, if_pos h1, List.length_append, tx_len, List.length_replicate]
        show nd 10 n.toNat + (18 - nd 10 n.toNat) = 18
        omega
      simp
      refine hK _ _ ?_; clear hK
      refine AW.seqL [0, 1, 5, 7] fun K2 hK2 => ?_
      refine AW.stepL [] [0, 1, 5, 6, 7, 8] fun K hK => ?_
      simp
      refine hK _ _ ?_; clear hK
      refine AW.block ?_
      refine AW.loopS (ι := List UInt8 × Nat) (fun x => [(0, byts l), (1, .c (.int .i64 n)), (5, byts l), (6, .rs σ'.next 0 0 18), (7, .c (.int .i64 0)), (8, .c (.int .i64 x.2))]) (fun x => σ'.alloc (.arr 5 0 (x.1.map byteV)))
        (fun x => x.2 ≤ 18 ∧ x.1.length = 18) (fun x => 18 - x.2) (fmtL n 10 18, 0) (fun _ _ => by simp) ⟨by simp, hlen⟩ rfl (by simp [Knows]) ?_
      rintro ⟨m, x⟩ ⟨hx, hm⟩
      simp only at hx hm
      refine AW.seqL [0, 1, 5, 6, 7, 8] fun K3 hK3 => ?_
      refine AW.stepL [] [0, 1, 5, 6, 7, 8, 36] fun K hK => ?_
      simp
      refine hK _ _ ?_; clear hK
      refine AW.cond (hb := by simp; rfl) (fun hlt => ?_) (fun hlt => ?_)
      · simp at hlt
        obtain ⟨d, hd⟩ := get_ex (l := m) (i := x) (by omega)
        have hltI : (x : Int) < 18 := by omega
        refine AW.skip ?_
        simp
        refine hK3 _ _ ?_; clear hK3
        refine AW.seqL [0, 1, 5, 6, 7, 8] fun K4 hK4 => ?_
        refine AW.block ?_
        refine AW.region (ow := []) ?_
        simp [hd, hltI, hlt, u8_inc]
        refine hK4 _ _ ?_; clear hK4
        refine AW.region (ow := []) ?_
        have hw : IntKind.i64.wrap ((x : Int) + 1) = (x : Int) + 1 := wrap64_id (by omega) (by omega)
        simp [hw]
        refine ⟨m.set x (d + 1), x + 1, ⟨by omega, by simp [hm]⟩, ?_, by simp [Knows], by omega⟩
        rw [List.map_set]; rfl
      · simp at hlt
        refine AW.exit ?_
        simp
        refine hK2 _ _ ?_; clear hK2
        refine AW.weaken (fr [(0, byts l), (1, .c (.int .i64 n)), (5, byts l), (7, .c (.int .i64 0))]) σ' (Weak.some _ ⟨Nat.le_refl _, by simp, fun i o h => ?_, .inr hσ⟩ ?_) ?_
        · have := (hσ i o h).1
          simp [Nat.ne_of_lt this, h]
        · intro p hp
          simp at hp
          rcases hp with rfl | rfl | rfl | rfl
          · exact ⟨by simp, by simp; exact .refl _, .inr (by simp)⟩
          · exact ⟨by simp, by simp; exact .refl _, .inr (by simp)⟩
          · exact ⟨by simp, by simp; exact .refl _, .inr (by simp)⟩
          · exact ⟨by simp, by simp; exact .refl _, .inr (by simp)⟩
        refine AW.stepL [] [0, 1, 5, 7, 9, 10] fun K hK => ?_
        simp
        refine (Format_s n 10 18 hn σ').mono ?_
        rintro r σ ⟨rfl, rfl⟩
        simp
        refine hK _ _ ?_; clear hK
        refine AW.stepL [] [0, 5, 7, 9, 10, 11] fun K hK => ?_
        simp
        refine (rFormat_c n 10 18 hn σ).mono ?_
        rintro r σ' ⟨rfl, rfl⟩
        simp
        refine hK _ _ ?_; clear hK
        refine AW.stepL [] [4] fun K hK => ?_
        simp [h1]
        refine (Same_c l l hl σ').mono ?_
        rintro r σ ⟨rfl, rfl⟩
        simp
        refine (Same_c (fmtL n 10 18) (fmtL n 10 18) hFl σ).mono ?_
        rintro r σ' ⟨rfl, rfl⟩
        simp
        refine hK _ _ ?_; clear hK
        refine AW.ret ?_
        simp
        exact Fin.same (Nat.le_refl _) ⟨rfl, rfl⟩
    · simp
      refine hK _ _ ?_; clear hK
      refine AW.seqL [0, 1, 5, 7] fun K2 hK2 => ?_
      refine AW.stepL [] [0, 1, 5, 6, 7, 8] fun K hK => ?_
      simp
      refine hK _ _ ?_; clear hK
      refine AW.block ?_
      refine AW.loopS (ι := Unit) (fun x => [(0, byts l), (1, .c (.int .i64 n)), (5, byts l), (6, .nl), (7, .c (.int .i64 (fmtE n 10 18))), (8, .c (.int .i64 0))]) (fun x => σ2) (fun x => True) (fun x => 0) () (fun _ _ => Nat.le_refl _) trivial rfl (by simp [Knows]) ?_
      rintro x _
      refine AW.seqL [0, 1, 5, 6, 7, 8] fun K3 hK3 => ?_
      refine AW.stepL [] [0, 1, 5, 6, 7, 8, 36] fun K hK => ?_
      simp
      refine hK _ _ ?_; clear hK
      refine AW.cond (b := false) (by simp) (fun h => by cases h) (fun _ => ?_)
      refine AW.exit ?_
      simp
      refine hK2 _ _ ?_; clear hK2
      refine AW.stepL [] [0, 1, 5, 7, 9, 10] fun K hK => ?_
      simp
      refine (Format_s n 10 18 hn σ2).mono ?_
      rintro r σ ⟨rfl, rfl⟩
      simp
      refine hK _ _ ?_; clear hK
      refine AW.stepL [] [0, 5, 7, 9, 10, 11] fun K hK => ?_
      simp
      refine (rFormat_c n 10 18 hn σ).mono ?_
      rintro r σx ⟨rfl, rfl⟩
      simp
      refine hK _ _ ?_; clear hK
      refine AW.stepL [] [4] fun K hK => ?_
      simp
      refine (Same_c l l hl σx).mono ?_
      rintro r σ ⟨rfl, rfl⟩
      simp
      refine (Same_c (fmtL n 10 18) (fmtL n 10 18) hFl σ).mono ?_
      rintro r σx ⟨rfl, rfl⟩
      simp
      refine hK _ _ ?_; clear hK
      refine AW.ret ?_
      simp
      exact Fin.same (Nat.le_refl _) ⟨rfl, rfl⟩
end Go.Proofs.Ytoipkcljmlfobaa
