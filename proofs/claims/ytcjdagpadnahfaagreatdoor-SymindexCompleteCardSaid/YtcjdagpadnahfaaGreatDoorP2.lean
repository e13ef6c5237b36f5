/- Numeric fields read, by the program and by the reference. No condition. -/
import Derived.Test.YtcjdagpadnahfaaGreatDoorP1
set_option linter.unusedVariables false
set_option linter.unusedSimpArgs false
set_option linter.unnecessarySimpa false
namespace Go.Proofs.YtcjdagpadnahfaaGreatDoor
open Go Go.AW
set_option maxRecDepth 100000
set_option maxHeartbeats 8000000

def prsV (l : W) (b : Int) : AV := .tup [intV (prsN l b), intV (prsE l b)]
theorem prs13 {l : W} {b : Int} (h : ¬ (b = 8 ∨ b = 10) ∨ l.length < 1 ∨ 18 < l.length) : prsE l b = 13 ∧ prsN l b = 0 := by
  have : prsE l b = 13 := by rw [prsE, if_pos h]
  exact ⟨this, by rw [prsN, if_neg (by omega)]⟩
theorem prs3 {l : W} {b : Int} (h : ¬ (¬ (b = 8 ∨ b = 10) ∨ l.length < 1 ∨ 18 < l.length)) (ho : ¬ okf b.toNat l) : prsE l b = 3 ∧ prsN l b = 0 := by
  have : prsE l b = 3 := by rw [prsE, if_neg h, if_neg ho]
  exact ⟨this, by rw [prsN, if_neg (by omega)]⟩
theorem prs0 {l : W} {b : Int} (h : ¬ (¬ (b = 8 ∨ b = 10) ∨ l.length < 1 ∨ 18 < l.length)) (ho : okf b.toNat l) : prsE l b = 0 ∧ prsN l b = vl b.toNat (ld b.toNat l) := by
  have : prsE l b = 0 := by rw [prsE, if_neg h, if_pos ho]
  exact ⟨this, by rw [prsN, if_pos this]⟩
theorem Parse_p (l : W) (b : Int) (hl : l.length ≤ 1000000000) : Pur E 119 [bytes l, intV b] (prsV l b) := by
  refine Pur.enter [] Tryz.func119 rfl Tryz.ntmps119 Tryz.results119 hmE (by kernel_rfl) (by simp) (by simp [prsV]) fun σ hσ => ?_
  conv => arg 5; cbv
  simp
  refine Pur.call (based_p b) ?_
  by_cases hbad : ¬ (b = 8 ∨ b = 10) ∨ l.length < 1 ∨ 18 < l.length
  · obtain ⟨h1, h2⟩ := prs13 hbad
    simp [prsV, h1, h2]
    exact fun a b c => by omega
  · have hb : b = 8 ∨ b = 10 := by omega
    obtain ⟨c, rfl⟩ : ∃ c : Nat, b = c := ⟨b.toNat, by omega⟩
    have hc : c = 8 ∨ c = 10 := by omega
    simp [hb, show ¬ ((l.length : Int) < 1) by omega, show ¬ ((18 : Int) < l.length) by omega]
    refine loop_n hmE (by kernel_rfl) l.length (fun i => [(25, intV i), (6, intV (vl c (l.take i) : Nat)), (7, intV i)]) (fun i => i ≤ l.length ∧ ∀ y ∈ l.take i, isd c y = true) (by simp) hσ (by simp) (by simp) (by simp [vl]) fun i ⟨hi, hall⟩ => ?_
    simp
    have facts : ld c l = l.take i → (i = 0 → prsV l c = .tup [intV 0, intV 3]) ∧ (1 < i → l[0]? = some 48 → prsV l c = .tup [intV 0, intV 3]) ∧ ((l.drop i).all (· == 32) = false → prsV l c = .tup [intV 0, intV 3]) ∧
        (¬ i = 0 → ¬ (1 < i ∧ l[0]? = some 48) → (l.drop i).all (· == 32) = true → prsV l c = .tup [intV (vl c (l.take i) : Nat), intV 0]) := by
      intro hst
      have hlen : (ld c l).length = i := by rw [hst]; simp; omega
      have no : ¬ okf c l → prsV l c = .tup [intV 0, intV 3] := fun h => by
        obtain ⟨h1, h2⟩ := prs3 hbad (by simpa using h)
        rw [prsV, h1, h2]; rfl
      refine ⟨fun h => no fun ho => ho.1 (by rw [hst, h]; rfl), fun h1 h2 => no fun ho => ho.2.1 ⟨by omega, h2⟩, fun h => no fun ho => ?_, fun h1 h2 h3 => ?_⟩
      · have := ho.2.2
        rw [hlen] at this
        have h4 : (l.drop i).all (· == 32) = true := List.all_eq_true.2 fun y hy => by simp [this y hy]
        rw [h] at h4; cases h4
      · have ho : okf c l := ⟨fun e => h1 (by rw [e] at hlen; simpa using hlen.symm), by rw [hlen]; exact h2, fun y hy => by
          rw [hlen] at hy
          simpa using List.all_eq_true.1 h3 y hy⟩
        obtain ⟨h4, h5⟩ := prs0 hbad (by simpa using ho)
        rw [prsV, h4, h5]
        simp [hst]
    have hB := Blank_p (l.drop i) (by simp; omega)
    obtain ⟨B, hBd⟩ : ∃ B, B = (l.drop i).all (· == 32) := ⟨_, rfl⟩
    rw [← hBd] at facts hB
    simp at hB
    refine ⟨fun h => ?_, fun h => ?_⟩
    · obtain ⟨a, ha⟩ := get_ex h
      have ha48 := a.toNat_lt
      have hw8 : 48 ≤ (a.toNat : Int) → IntKind.i64.wrap (IntKind.u8.wrap ((a.toNat : Int) - 48)) = (a.toNat : Int) - 48 := fun h48 => by
        rw [show IntKind.u8.wrap ((a.toNat : Int) - 48) = (a.toNat : Int) - 48 by rw [IntKind.wrap_u8]; omega]
        exact wrap64_id (by omega) (by omega)
      have hvl := vl_lt c (by omega) (l.take i) hall
      have hpw : c ^ (l.take i).length ≤ 10 ^ 18 := Nat.le_trans (Nat.pow_le_pow_left (show c ≤ 10 by omega) _) (Nat.pow_le_pow_right (by omega) (by simp; omega))
      have ne : ¬ (isd c a = true) → a ≠ 32 → prsV l c = .tup [intV 0, intV 3] := fun hd h32 => by
        have hst : ld c l = l.take i := by
          rw [show l = l.take i ++ l.drop i by simp]
          rw [List.take_append_of_le_length (by simp; omega), List.take_take, Nat.min_self]
          refine ld_append c _ _ hall fun x hx => ?_
          rw [List.getElem?_drop, Nat.add_zero, ha] at hx
          cases hx
          simpa using hd
        refine (facts hst).2.2.1 ?_
        rw [hBd, List.all_eq_false]
        exact ⟨a, List.mem_of_getElem? (i := 0) (by rw [List.getElem?_drop, Nat.add_zero, ha]), by simpa using h32⟩
      refine ⟨a, ha, fun h32 => ?_, fun h32 => ⟨fun h48 => ?_, fun h48 => ⟨fun hge => ?_, fun hlt => ?_⟩⟩⟩
      · have hst : ld c l = l.take i := by
          rw [show l = l.take i ++ l.drop i by simp]
          rw [List.take_append_of_le_length (by simp; omega), List.take_take, Nat.min_self]
          refine ld_append c _ _ hall fun x hx => ?_
          rw [List.getElem?_drop, Nat.add_zero, ha] at hx
          cases hx
          simp [isd]; omega
        obtain ⟨f0, f1, f2, f3⟩ := facts hst
        refine ⟨fun h0 => (f0 h0).symm, fun h0 => ⟨fun h1 => ?_, fun h1 => ?_⟩⟩
        · obtain ⟨z, hz⟩ := get_ex (l := l) (i := 0) (by omega)
          refine ⟨z, hz, fun h48 => (f1 (by omega) (by rw [hz, show z = 48 from UInt8.toNat_inj.1 (by show _ = 48; omega)])).symm, fun h48 => ⟨hi, ?_⟩⟩
          refine Pur.call hB ?_
          cases B
          · simp [f2]
          · simp; exact (f3 h0 (by rw [hz]; rintro ⟨_, e⟩; cases e; exact h48 rfl) rfl).symm
        · refine ⟨hi, ?_⟩
          refine Pur.call hB ?_
          cases B
          · simp [f2]
          · simp; exact (f3 h0 (by omega) rfl).symm
      · exact (ne (by simp [isd]; omega) (by rintro rfl; exact h32 rfl)).symm
      · rw [hw8 h48] at hge
        exact (ne (by simp [isd]; omega) (by rintro rfl; exact h32 rfl)).symm
      · rw [hw8 h48] at hlt ⊢
        have hs : l.take (i + 1) = l.take i ++ [a] := by rw [List.take_add_one, ha]; rfl
        have hp17 : c ^ (l.take i).length ≤ 10 ^ 17 := Nat.le_trans (Nat.pow_le_pow_left (show c ≤ 10 by omega) _) (Nat.pow_le_pow_right (by omega) (by simp; omega))
        have hm : vl c (l.take i) * c ≤ 10 ^ 17 * 10 := Nat.mul_le_mul (by omega) (by omega)
        rw [hs, vl_snoc]
        generalize vl c (l.take i) = V at *
        have hVc : ((V * c : Nat) : Int) = (V : Int) * c := by simp
        refine ⟨⟨?_, wrap_succ h (by omega)⟩, ⟨h, ?_⟩, by omega⟩
        · rw [← hVc, wrap64_id (x := ((V * c : Nat) : Int)) (by omega) (by omega), wrap64_id (by omega) (by omega)]
          omega
        · intro y hy
          rcases List.mem_append.1 hy with hy | hy
          · exact hall y hy
          · simp at hy; subst hy; simp [isd]; omega
    · have hst : ld c l = l.take i := by
        rw [List.take_of_length_le h] at hall ⊢
        have := ld_append c l [] hall (by simp)
        simpa using this
      obtain ⟨f0, f1, f2, f3⟩ := facts hst
      refine ⟨fun h0 => (f0 h0).symm, fun h0 => ⟨fun h1 => ?_, fun h1 => ?_⟩⟩
      · obtain ⟨z, hz⟩ := get_ex (l := l) (i := 0) (by omega)
        refine ⟨z, hz, fun h48 => (f1 (by omega) (by rw [hz, show z = 48 from UInt8.toNat_inj.1 (by show _ = 48; omega)])).symm, fun h48 => ⟨hi, ?_⟩⟩
        refine Pur.call hB ?_
        cases B
        · simp [f2]
        · simp; exact (f3 h0 (by rw [hz]; rintro ⟨_, e⟩; cases e; exact h48 rfl) rfl).symm
      · refine ⟨hi, ?_⟩
        refine Pur.call hB ?_
        cases B
        · simp [f2]
        · simp; exact (f3 h0 (by omega) rfl).symm
end Go.Proofs.YtcjdagpadnahfaaGreatDoor
