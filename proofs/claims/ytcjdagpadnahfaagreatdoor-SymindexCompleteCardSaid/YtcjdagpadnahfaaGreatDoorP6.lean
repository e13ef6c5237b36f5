/- Parts of an archive read by the program. No condition. -/
import Derived.Test.YtcjdagpadnahfaaGreatDoorP5
set_option linter.unusedVariables false
set_option linter.unusedSimpArgs false
set_option linter.unnecessarySimpa false
namespace Go.Proofs.YtcjdagpadnahfaaGreatDoor
open Go Go.AW
set_option maxRecDepth 100000
set_option maxHeartbeats 8000000

theorem dec_size {b : W} (h : decE b = 0) : (decH b).s = (szN b : Int) ∧ szN b < 10 ^ 18 := by
  have hb : 60 ≤ b.length := by
    rw [decE] at h
    split at h <;> omega
  have hnone : none ∉ dFld b := by
    intro hn
    rw [decE, if_pos hn] at h
    split at h
    · omega
    · split at h
      · omega
      · split at h <;> omega
  have hH : (decH b).s = fldI b 4 := by rw [decH, if_pos h]
  have h0 : (decH b).s = (szN b : Int) := by rw [szN, hH, fldI]; rfl
  refine ⟨h0, ?_⟩
  have h4 : (dFld b)[4]? = some (fldN (cutP b 48 10) 10 false) := rfl
  cases hv : fldN (cutP b 48 10) 10 false with
  | none => exact absurd (List.mem_of_getElem? (by rw [h4, hv])) hnone
  | some v =>
    obtain ⟨_, h2⟩ := fld_ok (b := 10) (w := 10) (by omega) (by rw [cut_len (by omega)]; rfl) hv
    have : fldI b 4 = v := by simp [fldI, List.getD, h4, hv]
    omega
def partV (b : W) : AV := .agg [str (nxtH b).name, intV (nxtH b).t, intV (nxtH b).u, intV (nxtH b).g, intV (nxtH b).m, intV (nxtH b).s, bytes (nxtD b), intV (nxtE b)]
attribute [simp] partV
theorem nxt_bad {b : W} (h : nxtE b ≠ 0) : nxtH b = zeroH ∧ nxtD b = [] ∧ nxtN b = 0 := ⟨by rw [nxtH, if_neg h], by rw [nxtD, if_neg h], by rw [nxtN, if_neg h]⟩
attribute [local simp] zeroH
theorem next_p (b : W) (hb : b.length ≤ 1000000000) : Pur E 86 [bytes b] (.tup [partV b, intV (nxtN b)]) := by
  have hD := HDecode_p b hb
  simp at hD
  refine Pur.enter [] Tryz.func86 rfl Tryz.ntmps86 Tryz.results86 hmE (by kernel_rfl) (by simp) (by simp) fun σ hσ => ?_
  conv => arg 5; cbv
  simp
  refine Pur.call hD ?_
  by_cases h0 : decE b = 0
  · obtain ⟨hs, hsz⟩ := dec_size h0
    have hm := Nat.mod_two_eq_zero_or_one (szN b)
    have w1 : IntKind.i64.wrap (60 + (szN b : Int)) = ((60 + szN b : Nat) : Int) := (wrap64_id (by omega) (by omega)).trans (by omega)
    have w2 : IntKind.i64.wrap (((60 + szN b : Nat) : Int) + ((szN b % 2 : Nat) : Int)) = ((60 + szN b + szN b % 2 : Nat) : Int) := (wrap64_id (by omega) (by omega)).trans (by omega)
    obtain ⟨Z, hZ⟩ : ∃ Z, Z = szN b := ⟨_, rfl⟩
    rw [← hZ] at hs hsz hm w1 w2
    generalize hY : 60 + Z = Y at *
    generalize hX : Y + Z % 2 = X at *
    have w3 : IntKind.i64.wrap ((Y : Int) + (Z : Int) % 2) = (X : Int) := by rw [← w2]; congr 1
    have ce : List.drop 60 (List.take Y (List.map byteV b)) = (cutP b 60 Z).map byteV := by rw [← List.map_take, ← List.map_drop, cutP, List.drop_take]; congr 2; omega
    have hcl : (cutP b 60 Z).length ≤ b.length := by simp [cutP]; omega
    have hK := cloneB_p (cutP b 60 Z) (by omega)
    simp [← ce] at hK
    have n2 : b.length < X → nxtE b = 2 := fun h => by rw [nxtE, if_neg (by omega), if_pos (by omega)]
    have n5 : ¬ b.length < X → Z % 2 = 1 → b[Y]? ≠ some 10 → nxtE b = 5 := fun h h1 h2 => by rw [nxtE, if_neg (by omega), if_neg (by omega), ← hZ, hY, if_pos ⟨h1, h2⟩]
    have n0 : ¬ b.length < X → (Z % 2 = 1 → b[Y]? = some 10) → nxtE b = 0 := fun h h1 => by rw [nxtE, if_neg (by omega), if_neg (by omega), ← hZ, hY, if_neg (fun ⟨a, c⟩ => c (h1 a))]
    have bad : nxtE b ≠ 0 → nxtH b = zeroH ∧ nxtD b = [] ∧ nxtN b = 0 := nxt_bad
    have good : nxtE b = 0 → nxtH b = decH b ∧ nxtD b = cutP b 60 Z ∧ nxtN b = X := fun h => ⟨by rw [nxtH, if_pos h], by rw [nxtD, if_pos h, hZ], by rw [nxtN, if_pos h, ← hZ]; omega⟩
    rcases hm with hm | hm
    · have hzi : (Z : Int) % 2 = 0 := by omega
      have hXY : X = Y := by omega
      subst hXY
      simp [h0, hs, tmod2, w1, hzi]
      simp [hzi] at w3
      simp [w3]
      refine ⟨fun h => ?_, fun h => ⟨by omega, by omega, ?_⟩⟩
      · have hE := n2 (by omega)
        obtain ⟨q1, q2, q3⟩ := bad (by omega)
        simp [hE, q1, q2, q3]
      · have hE := n0 (by omega) (by omega)
        obtain ⟨q1, q2, q3⟩ := good hE
        refine Pur.d hK ?_
        simp [hE, q1, q2, q3, ce, hs, w3]
        rw [tmod2, hm]
        simpa using w3
    · have hzi : (Z : Int) % 2 = 1 := by omega
      simp [h0, hs, tmod2, w1, hzi]
      simp [hzi] at w3
      simp [w3]
      refine ⟨fun h => ?_, fun h => ?_⟩
      · have hE := n2 (by omega)
        obtain ⟨q1, q2, q3⟩ := bad (by omega)
        simp [hE, q1, q2, q3]
      · obtain ⟨c, hc⟩ := get_ex (l := b) (i := Y) (by omega)
        refine ⟨c, hc, fun h10 => ?_, fun h10 => ⟨by omega, by omega, ?_⟩⟩
        · have hE := n5 (by omega) hm (by rw [hc]; intro e; cases e; exact h10 rfl)
          obtain ⟨q1, q2, q3⟩ := bad (by omega)
          simp [hE, q1, q2, q3]
        · have hE := n0 (by omega) (fun _ => by rw [hc, show c = 10 from UInt8.toNat_inj.1 (by show _ = 10; omega)])
          obtain ⟨q1, q2, q3⟩ := good hE
          refine Pur.d hK ?_
          simp [hE, q1, q2, q3, ce, hs, w3]
          rw [tmod2, hm]
          simpa using w3
  · have hE : nxtE b = decE b := by rw [nxtE, if_pos h0]
    obtain ⟨n1, n2, n3⟩ := nxt_bad (b := b) (by omega)
    simp [h0, hE, n1, n2, n3]
end Go.Proofs.YtcjdagpadnahfaaGreatDoor
