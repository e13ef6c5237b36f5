/- Headers read by the reference. No condition. -/
import Derived.Test.YtcjdagpadnahfaaGreatDoorP3
set_option linter.unusedVariables false
set_option linter.unusedSimpArgs false
set_option linter.unnecessarySimpa false
namespace Go.Proofs.YtcjdagpadnahfaaGreatDoor
open Go Go.AW
set_option maxRecDepth 100000
set_option maxHeartbeats 8000000

theorem same_sp (l : W) : (l == List.replicate l.length 32) = l.all (· == 32) := by
  rw [Bool.eq_iff_iff]
  simp only [beq_iff_eq, List.all_eq_true]
  rw [List.eq_replicate_iff]
  simp
theorem number_p (l : W) (b : Int) (bl : Bool) (hb : b = 8 ∨ b = 10) (hl : 1 ≤ l.length ∧ l.length ≤ 18) : Pur E 90 [bytes l, intV b, boolV bl] (.tup [intV ((fldN l b bl).getD 0 : Nat), boolV (fldN l b bl).isSome]) := by
  have hP := rParse_p l b (by omega)
  have hS := Same_p l (List.replicate l.length 32) (by omega)
  have hsp := spaces_p l.length (by omega)
  have pc := prs_cases hb hl
  obtain ⟨R, hR⟩ : ∃ R, R = List.replicate l.length (32 : UInt8) := ⟨_, rfl⟩
  have hss := same_sp l
  rw [← hR] at hsp hS hss
  rw [hss] at hS
  simp [prsV] at hP hS hsp
  refine Pur.enter [] Tryz.func90 rfl Tryz.ntmps90 Tryz.results90 hmE (by kernel_rfl) (by simp) (by simp) fun σ hσ => ?_
  conv => arg 5; cbv
  cases bl with
  | true =>
    simp
    first | refine Pur.d hsp ?_ | refine Pur.call hsp ?_
    simp
    first | refine Pur.d hS ?_ | refine Pur.call hS ?_
    cases hall : l.all (· == 32) with
    | false => simp [fldN, hall]
    | true => simp [fldN, hall]
  | false =>
    simp
    refine Pur.call hP ?_
    rcases pc with ⟨g1, g2⟩ | ⟨g1, g2⟩
    · simp [g1, g2]
    · have : prsN l b = 0 := by rw [prsN, if_neg (by omega)]
      simp [g1, g2, this]
theorem rt_step (l : W) : rt (l ++ [32]) = rt l := by simp [rt]
theorem rt_end (l : W) (h : l.getLast? ≠ some 32) : rt l = l := by simpa using rt_pad l 0 h
attribute [local simp] zeroH
theorem cut_pair {b : W} {x y : UInt8} (hx : b[58]? = some x) (hy : b[59]? = some y) : cutP b 58 2 = [x, y] := by
  refine List.ext_getElem? fun i => ?_
  rw [cutP, List.getElem?_take, List.getElem?_drop]
  match i with
  | 0 => simpa using hx
  | 1 => simpa using hy
  | i + 2 => simp; omega
theorem rDecode_p (b : W) (hb : b.length ≤ 1000000000) : Pur E 57 [bytes b] (decV b) := by
  refine Pur.enter [49] Tryz.func57 rfl Tryz.ntmps57 Tryz.results57 hmE (by kernel_rfl) (by simp) (by simp) fun σ hσ => ?_
  conv => arg 5; cbv
  simp
  refine ⟨fun h => ?_, fun h => ?_⟩
  · have := dec_2 (b := b) (by omega)
    simp [this, dec_bad (b := b) (by omega), zeroH]
  have hl60 : ¬ b.length < 60 := by omega
  obtain ⟨x, hx⟩ := get_ex (l := b) (i := 58) (by omega)
  obtain ⟨y, hy⟩ := get_ex (l := b) (i := 59) (by omega)
  have hc := cut_pair hx hy
  have n4 : ¬ (x = 96 ∧ y = 10) → decE b = 4 := fun hn => dec_4 hl60 (by rw [hc]; intro e; simp at e; exact hn e)
  refine ⟨x, hx, fun h1 => ?_, fun h1 => ⟨y, hy, fun h2 => ?_, fun h2 => ?_⟩⟩
  · have := n4 fun ⟨e, _⟩ => h1 (by rw [e]; rfl)
    simp [this, dec_bad (b := b) (by omega), zeroH]
  · have := n4 fun ⟨_, e⟩ => h2 (by rw [e]; rfl)
    simp [this, dec_bad (b := b) (by omega), zeroH]
  have h1 : cutP b 58 2 = [96, 10] := by
    rw [hc, show x = 96 from UInt8.toNat_inj.1 (by show _ = 96; omega), show y = 10 from UInt8.toNat_inj.1 (by show _ = 10; omega)]
  have hnl : (dName b).length ≤ 16 := by have := rt_len (b.take 16); simp at this; unfold dName; omega
  refine loop_x hmE (by kernel_rfl) (· - 1) 16 (fun n : Nat => [(4, intV n)]) (fun _ => σ.alloc (.arr 100 0 [hdrV zeroH])) (fun n : Nat => n ≤ 16 ∧ rt (b.take n) = dName b) (fun n => n) ⟨by omega, rfl⟩ (fun n hn => ⟨by simp, hσ.alloc_arr (by simp), by simp⟩) (by simp [zeroH]) (by simp) fun n hn => ?_
  obtain ⟨hn, hrt⟩ := hn
  have cont : b.take n = dName b → True := fun _ => trivial
  by_cases hn0 : n = 0
  · subst hn0
    have hd : dName b = [] := by rw [← hrt]; rfl
    have h6 := dec_6 hl60 h1 (by rw [hd]; rfl)
    have hF := rfits_p [] (by simp)
    simp
    refine Pur.call hF ?_
    simp [show fitsN [] = false by rfl, h6, dec_bad (b := b) (by omega)]
  · obtain ⟨z, hz⟩ := get_ex (l := b) (i := n - 1) (by omega)
    have hw : IntKind.i64.wrap ((n : Int) - 1) = ((n - 1 : Nat) : Int) := (wrap64_id (by omega) (by omega)).trans (by omega)
    have htk : b.take n = b.take (n - 1) ++ [z] := by
      conv => lhs; rw [show n = n - 1 + 1 by omega]
      rw [List.take_add_one, hz]; rfl
    simp [hw, hz, show 0 < n by omega]
    refine ⟨fun h32 => ⟨⟨by omega, ?_⟩, by omega⟩, fun h32 => ⟨by omega, ?_⟩⟩
    · rw [htk, show z = 32 from UInt8.toNat_inj.1 (by show _ = 32; omega), rt_step] at hrt
      exact hrt
    have hd : b.take n = dName b := by
      rw [← hrt, rt_end]
      rw [htk]
      simp
      rintro rfl
      exact h32 rfl
    rw [hd]
    refine Pur.call (rfits_p (dName b) (by omega)) ?_
    simp
    refine ⟨fun h2 => ?_, fun h2 => ?_⟩
    · have := dec_6 hl60 h1 h2
      simp [this, dec_bad (b := b) (by omega)]
    have ce : ∀ i w, List.drop i (List.take (i + w) (List.map byteV b)) = (cutP b i w).map byteV := fun i w => by rw [← List.map_take, ← List.map_drop, cutP, List.drop_take]; simp
    have N0 := number_p (cutP b 16 12) 10 (dName b == [47, 47]) (by omega) (by rw [cut_len (by omega)]; omega)
    have N1 := number_p (cutP b 28 6) 10 (dName b == [47, 47]) (by omega) (by rw [cut_len (by omega)]; omega)
    have N2 := number_p (cutP b 34 6) 10 (dName b == [47, 47]) (by omega) (by rw [cut_len (by omega)]; omega)
    have N3 := number_p (cutP b 40 8) 8 (dName b == [47, 47]) (by omega) (by rw [cut_len (by omega)]; omega)
    have N4 := number_p (cutP b 48 10) 10 false (by omega) (by rw [cut_len (by omega)]; omega)
    have hF : dFld b = [fldN (cutP b 16 12) 10 (dName b == [47, 47]), fldN (cutP b 28 6) 10 (dName b == [47, 47]), fldN (cutP b 34 6) 10 (dName b == [47, 47]), fldN (cutP b 40 8) 8 (dName b == [47, 47]), fldN (cutP b 48 10) 10 false] := rfl
    generalize fldN (cutP b 16 12) 10 (dName b == [47, 47]) = o0 at *
    generalize fldN (cutP b 28 6) 10 (dName b == [47, 47]) = o1 at *
    generalize fldN (cutP b 34 6) 10 (dName b == [47, 47]) = o2 at *
    generalize fldN (cutP b 40 8) 8 (dName b == [47, 47]) = o3 at *
    generalize fldN (cutP b 48 10) 10 false = o4 at *
    have c0 := ce 16 12
    have c1 := ce 28 6
    have c2 := ce 34 6
    have c3 := ce 40 8
    have c4 := ce 48 10
    simp at c0 c1 c2 c3 c4
    simp [← c0] at N0
    simp [← c1] at N1
    simp [← c2] at N2
    simp [← c3] at N3
    simp [← c4] at N4
    refine ⟨by omega, ?_⟩
    refine Pur.call N0 ?_
    simp
    refine ⟨by omega, ?_⟩
    refine Pur.call N1 ?_
    simp
    refine ⟨by omega, ?_⟩
    refine Pur.call N2 ?_
    simp
    refine ⟨by omega, ?_⟩
    refine Pur.call N3 ?_
    simp
    refine ⟨by omega, ?_⟩
    refine Pur.call N4 ?_
    simp
    refine loop_n hmE (by kernel_rfl) 5 (fun i => [(8, intV i)]) (fun i => i ≤ 5 ∧ none ∉ (dFld b).take i) (by simp; omega) (((hσ.alloc_arr (by simp)).alloc_arr (by simp)).alloc_arr (by simp)) (by simp) (by simp; intros; omega) (by simp) fun i ⟨hi, hno⟩ => ?_
    have bad : none ∈ dFld b → decE b = 3 := dec_3 hl60 h1 h2
    have step : ∀ i v, (dFld b)[i]? = some (some v) → none ∉ (dFld b).take i → none ∉ (dFld b).take (i + 1) := fun i v hv hn => take_none hn hv
    obtain rfl | rfl | rfl | rfl | rfl | rfl : i = 0 ∨ i = 1 ∨ i = 2 ∨ i = 3 ∨ i = 4 ∨ i = 5 := by omega
    · cases o0 with
      | none =>
        have := bad (by rw [hF]; simp)
        simp [this, dec_bad (b := b) (by omega)]
      | some v =>
        have := step 0 v (by rw [hF]; rfl) hno
        simp
        exact ⟨wrap64_id (by omega) (by omega), this⟩
    · cases o1 with
      | none =>
        have := bad (by rw [hF]; simp)
        simp [this, dec_bad (b := b) (by omega)]
      | some v =>
        have := step 1 v (by rw [hF]; rfl) hno
        simp
        exact ⟨wrap64_id (by omega) (by omega), this⟩
    · cases o2 with
      | none =>
        have := bad (by rw [hF]; simp)
        simp [this, dec_bad (b := b) (by omega)]
      | some v =>
        have := step 2 v (by rw [hF]; rfl) hno
        simp
        exact ⟨wrap64_id (by omega) (by omega), this⟩
    · cases o3 with
      | none =>
        have := bad (by rw [hF]; simp)
        simp [this, dec_bad (b := b) (by omega)]
      | some v =>
        have := step 3 v (by rw [hF]; rfl) hno
        simp
        exact ⟨wrap64_id (by omega) (by omega), this⟩
    · cases o4 with
      | none =>
        have := bad (by rw [hF]; simp)
        simp [this, dec_bad (b := b) (by omega)]
      | some v =>
        have := step 4 v (by rw [hF]; rfl) hno
        simp
        exact ⟨wrap64_id (by omega) (by omega), this⟩
    · have hall : none ∉ dFld b := by rw [hF] at hno ⊢; simpa using hno
      obtain ⟨q1, q2⟩ := dec_0 hl60 h1 h2 hall
      simp [q1, q2, hU, fldI, hF]
end Go.Proofs.YtcjdagpadnahfaaGreatDoor
