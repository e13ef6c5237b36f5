/- Headers, as the reference has them. No condition. -/
import Derived.Test.YtfonamgmfljhlaaDoorA3
set_option linter.unusedVariables false
set_option linter.unusedSimpArgs false
set_option linter.unnecessarySimpa false
namespace Go.Proofs.YtfonamgmfljhlaaDoor
open Go Go.AW
set_option maxRecDepth 100000
set_option maxHeartbeats 8000000

theorem u8_10 (b : UInt8) : (b.toNat : Int) = 10 ↔ b = 10 := u8_eq b 10 (by omega)
theorem u8_0 (b : UInt8) : (b.toNat : Int) = 0 ↔ b = 0 := u8_eq b 0 (by omega)
theorem u8_32 (b : UInt8) : (b.toNat : Int) = 32 ↔ b = 32 := u8_eq b 32 (by omega)
theorem u8_47 (b : UInt8) : (b.toNat : Int) = 47 ↔ b = 47 := u8_eq b 47 (by omega)
theorem rfits_p (n : W) (hn : n.length ≤ 1000000) : Pur E 38 [str n] (boolV (fitsN n)) := by
  refine Pur.enter [] Tryd.func38 rfl Tryd.ntmps38 Tryd.results38 hmE (by kernel_rfl) (by simp) (by simp) fun σ hσ => ?_
  conv => arg 5; cbv
  simp
  by_cases h : 1 ≤ n.length ∧ n.length ≤ 16
  · obtain ⟨b, hb⟩ := get_ex (l := n) (i := n.length - 1) (by omega)
    have hb2 := last_get n h.1
    rw [hb] at hb2
    have hw : IntKind.i64.wrap ((n.length : Int) - 1) = (n.length : Int) - 1 := wrap64_id (by omega) (by omega)
    have hi : ((n.length : Int) - 1).toNat = n.length - 1 := by omega
    have hf : fitsN n = (!hasAny n [10, 0] && !(some b == some 32)) := by rw [fitsN, ← hb2, decide_eq_true h]; rfl
    simp [show ¬ ((n.length : Int) < 1) by omega, show ¬ ((16 : Int) < n.length) by omega, hw, hi, hb, u8_32, hf]
    refine fun _ _ => ⟨by omega, by omega, fun h5 _ => h5, fun h5 => ?_⟩
    refine loop_n hmE (by kernel_rfl) n.length (fun i => [(3, intV i)]) (fun i => i ≤ n.length ∧ hasAny (n.take i) [10, 0] = false) (Nat.le_refl _) hσ (by simp [hasAny]) (by simp) (by simp) fun i ⟨hi, hno⟩ => ?_
    simp
    refine ⟨fun h6 => ?_, fun h6 => ?_⟩
    · obtain ⟨c, hc⟩ := get_ex h6
      have hcm := List.mem_of_getElem? hc
      simp [hc, u8_10, u8_0]
      have hsn : c = 10 ∨ c = 0 → hasAny n [10, 0] = true := fun h => by
        simp [hasAny]
        exact ⟨c, hcm, h⟩
      refine ⟨h6, fun h7 h8 => ?_, fun h7 => ⟨h6, fun h8 h9 => ?_, fun h8 => ⟨wrap_succ h6 (by omega), ⟨h6, ?_⟩, by omega⟩⟩⟩
      · rw [hsn (.inl h7)] at h8; cases h8
      · rw [hsn (.inr (UInt8.toNat_inj.1 h8))] at h9; cases h9
      · rw [List.take_add_one, hc]
        simp [hasAny] at hno ⊢
        exact ⟨hno, h7, fun e => h8 (by rw [e]; rfl)⟩
    · rw [List.take_of_length_le h6] at hno
      simp [hno, h5]
  · have hf : fitsN n = false := by simp [fitsN, h]
    rw [hf]
    refine ⟨fun _ => rfl, fun h1 => ⟨fun _ => rfl, fun h2 => absurd ⟨by omega, by omega⟩ h⟩⟩
theorem spaces_p (n : Nat) (hn : n ≤ 1000) : Pur E 40 [intV n] (bytes (List.replicate n 32)) := by
  refine Pur.enter [3000003] Tryd.func40 rfl Tryd.ntmps40 Tryd.results40 hmE (by kernel_rfl) (by simp) (by simp) fun σ hσ => ?_
  conv => arg 5; cbv
  simp
  refine loop_x hmE (by kernel_rfl) (· + 1) 0 (fun i : Nat => [(4, intV i), (3, .lg σ.next ((List.replicate i (32 : UInt8)).map byteV))]) (fun i : Nat => σ.alloc (.log 5 i)) (fun i : Nat => i ≤ n) (fun i => n - i) (by simp) (fun i hi => ⟨by simp, by simp [hσ], by have := bel_lg (Nat.lt_succ_self σ.next) (List.replicate i 32); simpa using this⟩) (by simp) (by simp) fun i hi => ?_
  simp
  refine ⟨fun h => ⟨by omega, by omega, ⟨(List.replicate_succ' ..).symm, wrap_succ h (by omega)⟩, by omega, by omega⟩, fun h => ?_⟩
  have : i = n := by omega
  rw [this]
def fldV (n b w : Int) (bl : Bool) : AV := .tup [bytes (fldL n b w bl), boolV (fldOk n b w bl)]
attribute [simp] fldV
theorem field_p (n b : Int) (w : Nat) (bl : Bool) (hn : n < 9223372036854775808) (hw : w ≤ 1000) : Pur E 39 [intV n, intV b, intV w, boolV bl] (fldV n b w bl) := by
  refine Pur.enter [] Tryd.func39 rfl Tryd.ntmps39 Tryd.results39 hmE (by kernel_rfl) (by simp) (by simp) fun σ hσ => ?_
  conv => arg 5; cbv
  simp
  refine ⟨fun h => ?_, fun h => ?_⟩
  · subst h
    refine Pur.call (spaces_p w hw) ?_
    simp [fldL, fldOk, Bool.beq_eq_decide_eq]
  · subst h
    refine Pur.call (rFormat_p n b w hn) ?_
    simp [fldL, fldOk]
    rw [Bool.eq_iff_iff]; simp
theorem rEncode_p (h : H) (hl : h.lim) : Pur E 28 [hdrV h] (encV h) := by
  refine Pur.enter [2000077, 6000040] Tryd.func28 rfl Tryd.ntmps28 Tryd.results28 hmE (by kernel_rfl) (by simp) (by simp) fun σ hσ => ?_
  conv => arg 5; cbv
  simp
  refine Pur.call (rfits_p h.name hl.2.2.2.2.2) ?_
  simp
  have ht : (h.name == [47, 47]) = h.tab := rfl
  rw [ht]
  obtain ⟨l1, l2, l3, l4, l5, _⟩ := hl
  refine ⟨fun hf => by simp [encL, encE, hf], fun hf => ?_⟩
  have hlen := fits_len hf
  have hw : IntKind.i64.wrap (16 - (h.name.length : Int)) = ((16 - h.name.length : Nat) : Int) := (wrap64_id (by omega) (by omega)).trans (by omega)
  refine Pur.call (field_p h.t 10 12 h.tab l1 (by omega)) ?_
  simp
  refine Pur.call (field_p h.u 10 6 h.tab l2 (by omega)) ?_
  simp
  refine Pur.call (field_p h.g 10 6 h.tab l3 (by omega)) ?_
  simp
  refine Pur.call (field_p h.m 8 8 h.tab l4 (by omega)) ?_
  simp
  refine Pur.call (field_p h.s 10 10 false l5 (by omega)) ?_
  simp [hw]
  have hb : false ∈ h.oks → encL h = [] ∧ 9 = encE h := fun h1 => ⟨(H.bad hf h1).2, (H.bad hf h1).1.symm⟩
  refine ⟨fun h1 => hb (by simp [H.oks, h1]), fun h1 => ⟨fun h2 => hb (by simp [H.oks, h2]), fun h2 => ⟨fun h3 => hb (by simp [H.oks, h3]), fun h3 => ⟨fun h4 => hb (by simp [H.oks, h4]), fun h4 => ⟨fun h5 => hb (by simp [H.oks, h5]), fun h5 => ⟨by omega, ?_⟩⟩⟩⟩⟩⟩
  obtain ⟨q1, q2⟩ := H.good hf (by simp [H.oks, h1, h2, h3, h4, h5])
  refine Pur.q (spaces_p (16 - h.name.length) (by omega)) ?_
  simp [hw]
  have k1 := fldL_len h.t 10 12 h.tab
  have k2 := fldL_len h.u 10 6 h.tab
  have k3 := fldL_len h.g 10 6 h.tab
  have k4 := fldL_len h.m 8 8 h.tab
  have k5 := fldL_len h.s 10 10 false
  simp at k1 k2 k3 k4 k5
  refine ⟨Pur.call (spaces_p (16 - h.name.length) (by omega)) (by simp), ?_⟩
  and_intros <;> first | omega | (simp [q1, q2, H.upto, H.head, H.parts]; done) | skip
end Go.Proofs.YtfonamgmfljhlaaDoor
