/- Contracts of the reference functions of layer 1: Format, Parse. Conditions: those that each theorem names. -/
import Derived.Test.YtoipkcljmlfobaaC2
set_option linter.unusedVariables false
set_option linter.unusedSimpArgs false
namespace Go.Proofs.Ytoipkcljmlfobaa
open Go Go.AW
set_option maxRecDepth 100000
set_option maxHeartbeats 8000000

theorem rFormat_c (n b w : Int) (hn : n < 9223372036854775808) (σ : Store) : ACalls E 11 [.c (.int .i64 n), .c (.int .i64 b), .c (.int .i64 w)] σ fun r σ' =>
    r = .tup [byts (fmtL n b w), .c (.int .i64 (fmtE n b w))] ∧ σ' = σ := by
  refine ACalls.enter Try.func11 rfl Try.ntmps11 Try.results11 (by simp) fun hσ => ?_
  refine AW.stepL [] [0, 1, 2] fun K hK => ?_
  simp
  refine hK _ _ ?_; clear hK
  refine AW.seqL [0, 1, 2] fun K1 hK1 => ?_
  refine AW.stepL [] [0, 1, 2, 19] fun K hK => ?_
  simp
  refine (Based_c b σ).mono ?_
  rintro r σ' ⟨rfl, rfl⟩
  have out : ∀ e : Nat, fmtE n b w = e → e ≠ 0 → AW.Fin σ'.next σ' (.tup [.nl, .c (.int .i64 e)]) fun r s => r = .tup [byts (fmtL n b w), .c (.int .i64 (fmtE n b w))] ∧ s = σ' := by
    intro e he h0
    refine ⟨.tup [byts (fmtL n b w), .c (.int .i64 (fmtE n b w))], _, ⟨Nat.le_refl _, Nat.le_refl _, fun _ _ h => h, .inl rfl⟩, .tup _ _ rfl ?_, .inl rfl, ⟨rfl, rfl⟩⟩
    intro j x y hx hy
    match j, hx, hy with
    | 0, hx, hy =>
      obtain rfl := Option.some.inj hx
      obtain rfl := Option.some.inj hy
      rw [fmtL, if_neg (by omega)]; exact .nl
    | 1, hx, hy =>
      obtain rfl := Option.some.inj hx
      obtain rfl := Option.some.inj hy
      rw [he]; exact .refl _
    | j + 2, hx, hy => simp at hx
  by_cases hbad : ¬ (b = 8 ∨ b = 10) ∨ w < 1 ∨ w > 18
  · have : K [(0, .c (.int .i64 n)), (1, .c (.int .i64 b)), (2, .c (.int .i64 w)), (19, .c (.bool true))] σ' := by
      refine hK _ _ (AW.cond (b := true) (by simp) (fun _ => ?_) (fun h => by cases h)); clear hK
      refine AW.stepL [] [6, 7] fun K hK => ?_
      simp
      refine hK _ _ ?_; clear hK
      refine AW.ret ?_
      simp
      have := out 13 (by rw [fmtE, if_pos hbad]) (by omega)
      simpa using this
    cases hb : (b == 8 || b == 10)
    · simp [hb]; exact this
    · have hw : w < 1 ∨ w > 18 := by simp at hb; omega
      by_cases h1 : w < 1
      · simp [hb, h1]; exact this
      · have h2 : 18 < w := by omega
        simp [hb, h1, h2]; exact this
  · have hb : b = 8 ∨ b = 10 := by omega
    have hb' : (b == 8 || b == 10) = true := by simpa using hb
    have h1 : ¬ w < 1 := by omega
    have h2 : ¬ 18 < w := by omega
    simp [hb', h1, h2]
    refine hK _ _ (AW.cond (b := false) (by simp) (fun h => by cases h) (fun _ => AW.skip ?_)); clear hK
    simp
    refine hK1 _ _ ?_; clear hK1
    refine AW.seqL [0, 1, 2] fun K2 hK2 => ?_
    refine AW.stepL [] [0, 1, 2, 29] fun K hK => ?_
    by_cases hbad2 : n < 0 ∨ w < nd b.toNat n.toNat
    · have : K [(0, .c (.int .i64 n)), (1, .c (.int .i64 b)), (2, .c (.int .i64 w)), (29, .c (.bool true))] σ' := by
        refine hK _ _ (AW.cond (b := true) (by simp) (fun _ => ?_) (fun h => by cases h)); clear hK
        refine AW.stepL [] [6, 7] fun K hK => ?_
        simp
        refine hK _ _ ?_; clear hK
        refine AW.ret ?_
        simp
        have := out 9 (by rw [fmtE, if_neg hbad, if_pos hbad2]) (by omega)
        simpa using this
      by_cases h0 : n < 0
      · simp [h0]; exact this
      · obtain ⟨m, rfl⟩ : ∃ m : Nat, n = m := ⟨n.toNat, by omega⟩
        obtain ⟨c, rfl⟩ : ∃ c : Nat, b = c := ⟨b.toNat, by omega⟩
        simp [h0]
        refine (Text_c c m (by omega) (by omega) σ').mono ?_
        rintro r σ ⟨rfl, rfl⟩
        have h3 : w < ((tx c m).length : Int) := by rw [tx_len]; simp at hbad2; omega
        simp [h3]; exact this
    · obtain ⟨m, rfl⟩ : ∃ m : Nat, n = m := ⟨n.toNat, by omega⟩
      obtain ⟨c, rfl⟩ : ∃ c : Nat, b = c := ⟨b.toNat, by omega⟩
      obtain ⟨v, rfl⟩ : ∃ v : Nat, w = v := ⟨w.toNat, by omega⟩
      have hE : fmtE m c v = 0 := by rw [fmtE, if_neg hbad, if_neg hbad2]
      have hL : fmtL m c v = tx c m ++ List.replicate (v - nd c m) 32 := by rw [fmtL, if_pos hE]; simp
      have hdv : nd c m ≤ v := by simp at hbad2; omega
      have h0 : ¬ ((m : Int) < 0) := by omega
      have h3 : ¬ v < (tx c m).length := by rw [tx_len]; omega
      have hv18 : v ≤ 18 := by omega
      simp [h0]
      refine (Text_c c m (by omega) (by omega) σ').mono ?_
      rintro r σ ⟨rfl, rfl⟩
      simp [h3]
      refine hK _ _ (AW.cond (b := false) (by simp) (fun h => by cases h) (fun _ => AW.skip ?_)); clear hK
      simp
      refine hK2 _ _ ?_; clear hK2
      refine AW.stepL [33] [2, 8] fun K hK => ?_
      simp
      refine (Text_c c m (by omega) (by omega) σ).mono ?_
      rintro r σ ⟨rfl, rfl⟩
      have h21 : (tx c m).length ≤ 140737488355328 := by rw [tx_len]; omega
      simp [h21]
      refine hK _ _ ?_; clear hK
      refine AW.seqL [8] fun K3 hK3 => ?_
      refine AW.block ?_
      refine AW.loopS (ι := Nat × List UInt8) (fun x => [(2, .c (.int .i64 v)), (8, .rs σ.next x.1 0 x.2.length)]) (fun x => σ.alloc (.arr 5 x.1 (x.2.map byteV))) (fun x => x.2.length ≤ v ∧ x.2 = tx c m ++ List.replicate (x.2.length - nd c m) 32) (fun x => v - x.2.length) (0, tx c m) (fun _ _ => by simp) ⟨by rw [tx_len]; exact hdv, by rw [tx_len]; simp⟩ (by simp) (by simp [Knows]) ?_
      rintro ⟨g, l⟩ ⟨hx, hl⟩
      simp only at hx hl
      have hge : nd c m ≤ l.length := by
        have := congrArg List.length hl
        simp [tx_len] at this; omega
      refine AW.seqL [2, 8] fun K4 hK4 => ?_
      refine AW.stepL [] [2, 8, 37] fun K hK => ?_
      simp
      refine hK _ _ ?_; clear hK
      refine AW.cond (hb := by simp; rfl) (fun hlt => ?_) (fun hlt => ?_)
      · simp at hlt
        refine AW.skip ?_
        simp
        refine hK4 _ _ ?_; clear hK4
        refine AW.block ?_
        refine AW.region (ow := []) ?_
        simp [maxLen]
        refine ⟨by omega, by omega, ?_⟩
        refine ⟨g + 1, l ++ [32], ⟨by simp; omega, ?_⟩, by simp, by simp [Knows], by simp; omega⟩
        have e1 : (l ++ [32]).length - nd c m = (l.length - nd c m) + 1 := by simp; omega
        rw [e1, List.replicate_succ', ← List.append_assoc, ← hl]
      · simp at hlt
        have hlv : l.length = v := by omega
        refine AW.exit ?_
        simp
        refine hK3 _ _ ?_; clear hK3
        refine AW.stepL [] [6, 7] fun K hK => ?_
        simp
        refine hK _ _ ?_; clear hK
        refine AW.ret ?_
        simp
        rw [hlv] at hl
        rw [hE, hL, ← hl]
        refine Fin.back hσ (by simp) ?_ ?_ (by simp) ⟨rfl, rfl⟩
        · intro i o h
          have := (hσ i o h).1
          simp [Nat.ne_of_lt this, h]
        · refine .tup _ _ rfl ?_
          intro j x y hx hy
          match j, hx, hy with
          | 0, hx, hy =>
            obtain rfl := Option.some.inj hx
            obtain rfl := Option.some.inj hy
            refine SR.row (T := 5) (es := l.map byteV) (by simp) ?_ (by simp) (by rw [List.drop_zero, List.take_of_length_le (by simp)])
            cases h : σ.get σ.next with
            | none => rfl
            | some o => exact absurd (hσ _ _ h).1 (Nat.lt_irrefl _)
          | 1, hx, hy =>
            obtain rfl := Option.some.inj hx
            obtain rfl := Option.some.inj hy
            exact .refl _
          | j + 2, hx, hy => simp at hx
theorem rParse_c (l : List UInt8) (b : Int) (hl : l.length ≤ 9223372036854775807) (σ : Store) : ACalls E 13 [byts l, .c (.int .i64 b)] σ fun r σ' => r = .tup [.c (.int .i64 (prsN l b)), .c (.int .i64 (prsE l b))] ∧ σ' = σ := by
  refine ACalls.enter Try.func13 rfl Try.ntmps13 Try.results13 (by simp) fun hσ => ?_
  refine AW.stepL [] [0, 1] fun K hK => ?_
  simp
  refine hK _ _ ?_; clear hK
  refine AW.seqL [0, 1] fun K1 hK1 => ?_
  refine AW.stepL [] [0, 1, 22] fun K hK => ?_
  simp
  refine (Based_c b σ).mono ?_
  rintro r σ' ⟨rfl, rfl⟩
  by_cases hbad : ¬ (b = 8 ∨ b = 10) ∨ l.length < 1 ∨ 18 < l.length
  · have hE : prsE l b = 13 := by rw [prsE, if_pos hbad]
    have hN : prsN l b = 0 := by rw [prsN, if_neg (by omega)]
    have : K [(0, byts l), (1, .c (.int .i64 b)), (22, .c (.bool true))] σ' := by
      refine hK _ _ (AW.cond (b := true) (by simp) (fun _ => ?_) (fun h => by cases h)); clear hK
      refine AW.stepL [] [4, 5] fun K hK => ?_
      simp
      refine hK _ _ ?_; clear hK
      refine AW.ret ?_
      simp
      exact Fin.same (Nat.le_refl _) ⟨by rw [hE, hN]; rfl, rfl⟩
    simp at this
    cases hb : (b == 8 || b == 10)
    · simp [hb]; exact this
    · have hw : l.length < 1 ∨ 18 < l.length := by simp at hb; omega
      by_cases h1 : (l.length : Int) < 1
      · simp [hb, h1]; exact this
      · have hlen : (18 : Int) < l.length := by omega
        simp [hb, h1, hlen]; exact this
  · have hb : b = 8 ∨ b = 10 := by omega
    have hb' : (b == 8 || b == 10) = true := by simpa using hb
    have h1 : ¬ (l.length : Int) < 1 := by omega
    have h2 : ¬ (18 : Int) < l.length := by omega
    have h3 : l ≠ [] := by intro e; subst e; simp at hbad
    simp [hb', h1, h2]
    refine hK _ _ (AW.cond (b := false) (by simp) (fun h => by cases h) (fun _ => AW.skip ?_)); clear hK
    simp
    refine hK1 _ _ ?_; clear hK1
    refine AW.stepL [] [0, 1, 6] fun K hK => ?_
    simp
    refine hK _ _ ?_; clear hK
    refine AW.stepL [] [0, 1, 6, 7] fun K hK => ?_
    simp
    refine hK _ _ ?_; clear hK
    obtain ⟨c, rfl⟩ : ∃ c : Nat, b = c := ⟨b.toNat, by omega⟩
    have hc : c = 8 ∨ c = 10 := by omega
    refine AW.seqL [0, 1, 6, 7] fun K2 hK2 => ?_
    refine AW.block ?_
    refine AW.loopS (ι := Nat) (fun x => [(0, byts l), (1, .c (.int .i64 c)), (6, .c (.int .i64 (vl c (l.take x)))), (7, .c (.int .i64 x))]) (fun _ => σ') (fun x => x ≤ l.length ∧ ∀ y ∈ l.take x, isd c y = true) (fun x => l.length - x) 0 (fun _ _ => Nat.le_refl _) (by simp) rfl (by simp [Knows, vl]) ?_
    rintro x ⟨hx, hall⟩
    refine AW.seqL [0, 1, 6, 7] fun K3 hK3 => ?_
    refine AW.stepL [] [0, 1, 6, 7, 43] fun K hK => ?_
    have stop : ld c l = l.take x → K [(0, byts l), (1, .c (.int .i64 c)), (6, .c (.int .i64 (vl c (l.take x)))), (7, .c (.int .i64 x)), (43, .c (.bool false))] σ' := by
      intro hst
      have hvx : vl c (l.take x) < 10 ^ 18 := by
        have := vl_lt c (by omega) _ hall
        have h5 : c ^ (l.take x).length ≤ 10 ^ (l.take x).length := Nat.pow_le_pow_left (by omega) _
        have h6 : 10 ^ (l.take x).length ≤ 10 ^ 18 := Nat.pow_le_pow_right (by omega) (by simp; omega)
        omega
      have hiff := okf_iff c l hc (by omega)
      have hlx : (ld c l).length = x := by rw [hst]; simp; omega
      rw [hst] at hiff
      refine hK _ _ (AW.cond (b := false) (by simp) (fun h => by cases h) (fun _ => ?_)); clear hK
      refine AW.exit ?_
      simp
      refine hK2 _ _ ?_; clear hK2
      refine AW.stepL [] [0, 6, 7, 8, 9] fun K hK => ?_
      simp
      refine (rFormat_c (vl c (l.take x)) c l.length (by omega) σ').mono ?_
      rintro r σ ⟨rfl, rfl⟩
      simp
      refine hK _ _ ?_; clear hK
      refine AW.seqL [6] fun K4 hK4 => ?_
      refine AW.stepL [] [6, 75] fun K hK => ?_
      have bad : ¬ okf c l → K [(6, .c (.int .i64 (vl c (l.take x)))), (75, .c (.bool true))] σ := by
        intro hno
        refine hK _ _ (AW.cond (b := true) (by simp) (fun _ => ?_) (fun h => by cases h)); clear hK
        refine AW.stepL [] [4, 5] fun K hK => ?_
        simp
        refine hK _ _ ?_; clear hK
        refine AW.ret ?_
        simp
        have hE : prsE l c = 3 := by rw [prsE, if_neg hbad, if_neg (by simpa using hno)]
        have hN : prsN l c = 0 := by rw [prsN, if_neg (by omega)]
        exact Fin.same (Nat.le_refl _) ⟨by rw [hE, hN]; rfl, rfl⟩
      have good : okf c l → K [(6, .c (.int .i64 (vl c (l.take x)))), (75, .c (.bool false))] σ := by
        intro hok
        refine hK _ _ (AW.cond (b := false) (by simp) (fun h => by cases h) (fun _ => AW.skip ?_)); clear hK
        simp
        refine hK4 _ _ ?_; clear hK4
        refine AW.stepL [] [4, 5] fun K hK => ?_
        simp
        refine hK _ _ ?_; clear hK
        refine AW.ret ?_
        simp
        have hE : prsE l c = 0 := by rw [prsE, if_neg hbad, if_pos (by simpa using hok)]
        have hN : prsN l c = vl c (l.take x) := by rw [prsN, if_pos hE, ← hst]; rfl
        exact Fin.same (Nat.le_refl _) ⟨by rw [hE, hN]; rfl, rfl⟩
      clear hK hK4
      have hne : l.take x = [] ↔ x = 0 := by simp [h3]
      generalize hF : fmtL (vl c (l.take x)) c l.length = F at *
      generalize hG : fmtE (vl c (l.take x)) c l.length = G at *
      have hFl : F.length ≤ 9223372036854775807 := by
        rw [← hF]; unfold fmtL
        split
        · rw [List.length_append, tx_len, List.length_replicate]
          have := nd_le c (vl c (l.take x)) (by omega) (by omega)
          simp; omega
        · simp
      by_cases e0 : x = 0
      · simp [e0]
        simp [e0] at bad
        refine bad fun hok => ?_
        exact (hiff.1 hok).1 (hne.2 e0)
      · by_cases e1 : G = 0
        · simp [e0, e1]
          refine (Same_c F l hFl σ).mono ?_
          rintro r σ' ⟨rfl, rfl⟩
          cases hs : F == l
          · simp [hs, e0, e1]
            refine bad fun hok => ?_
            have := (hiff.1 hok).2.2
            simp [this] at hs
          · simp [hs, e0, e1]
            exact good (hiff.2 ⟨fun h => e0 (hne.1 h), e1, by simpa using hs⟩)
        · simp [e0, e1]
          exact bad fun hok => e1 (hiff.1 hok).2.1
    by_cases hlt : x < l.length
    · obtain ⟨d, hd⟩ := get_ex hlt
      have hd2 : l[x]'hlt = d := by rw [List.getElem?_eq_getElem hlt] at hd; exact Option.some.inj hd
      have hvx : vl c (l.take x) < 10 ^ 17 := by
        have := vl_lt c (by omega) _ hall
        have h5 : c ^ (l.take x).length ≤ 10 ^ (l.take x).length := Nat.pow_le_pow_left (by omega) _
        have h6 : 10 ^ (l.take x).length ≤ 10 ^ 17 := Nat.pow_le_pow_right (by omega) (by simp; omega)
        omega
      have hdr : l.take (x + 1) = l.take x ++ [d] := by rw [List.take_add_one, hd]; rfl
      have h256 : d.toNat < 256 := d.toNat_lt
      have hltI : (x : Int) < l.length := by omega
      by_cases hdig : isd c d = true
      · have hdig' := hdig
        simp [isd] at hdig'
        have g1 : (48 : Int) ≤ (d.toNat : Int) := by omega
        have hw : decide (IntKind.i64.wrap (IntKind.i64.wrap (d.toNat : Int) - 48) < (c : Int)) = true := by
          rw [wrap64_id (x := (d.toNat : Int)) (by omega) (by omega), wrap64_id (by omega) (by omega)]; simp; omega
        simp [hltI, hd, hd2, g1, hlt]
        rw [hw]
        refine hK _ _ (AW.cond (b := true) (by simp) (fun _ => AW.skip ?_) (fun h => by cases h)); clear hK
        simp
        refine hK3 _ _ ?_; clear hK3
        refine AW.block ?_
        refine AW.stepL [] [0, 1, 6, 7] fun K hK => ?_
        have hmul : (vl c (l.take x) : Int) * c = ((vl c (l.take x) * c : Nat) : Int) := by simp
        have hmul2 : vl c (l.take x) * c ≤ 10 ^ 17 * 10 := Nat.mul_le_mul (by omega) (by omega)
        have hvs : vl c (l.take (x + 1)) = vl c (l.take x) * c + (d.toNat - 48) := by rw [hdr, vl_snoc]
        generalize vl c (l.take x) * c = p at hmul hmul2 hvs
        generalize vl c (l.take x) = v at *
        simp (disch := omega) [wrap64_id, wrap8_id, hmul, hd, hd2]
        refine hK _ _ ?_; clear hK
        refine AW.region (ow := []) ?_
        simp (disch := omega) [wrap64_id]
        refine ⟨x + 1, ⟨hlt, ?_⟩, ?_, by omega⟩
        · rw [hdr]
          intro y hy
          rcases List.mem_append.1 hy with h | h
          · exact hall y h
          · simp at h; subst h; exact hdig
        · rw [hvs]
          simp [Knows]; omega
      · have hnd : isd c d = false := by simpa using hdig
        have hst : ld c l = l.take x := by
          conv => lhs; rw [← List.take_append_drop x l]
          exact ld_append c _ _ hall fun y hy => by rw [List.getElem?_drop, Nat.add_zero, hd] at hy; cases hy; exact hnd
        have fin := stop hst
        simp at fin
        by_cases g1 : (48 : Int) ≤ (d.toNat : Int)
        · have hw : decide (IntKind.i64.wrap (IntKind.i64.wrap (d.toNat : Int) - 48) < (c : Int)) = false := by
            rw [wrap64_id (x := (d.toNat : Int)) (by omega) (by omega), wrap64_id (by omega) (by omega)]; simp [isd] at hnd; simp; omega
          simp [hltI, hd, hd2, g1, hlt]
          rw [hw]; exact fin
        · simp [hltI, hd, hd2, g1, hlt]
          exact fin
    · have hxl : x = l.length := by omega
      have hst : ld c l = l.take x := by
        have := ld_append c l [] (by rw [hxl, List.take_length] at hall; exact hall) (by simp)
        rw [hxl, List.take_length]; simpa using this
      have fin := stop hst
      simp at fin
      simp [hlt]
      exact fin
end Go.Proofs.Ytoipkcljmlfobaa
