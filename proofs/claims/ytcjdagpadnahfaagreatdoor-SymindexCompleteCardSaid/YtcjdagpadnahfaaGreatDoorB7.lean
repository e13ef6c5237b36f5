/- The map's encoding. No condition. -/
import Derived.Test.YtcjdagpadnahfaaGreatDoorB6
set_option linter.unusedVariables false
set_option linter.unusedSimpArgs false
set_option linter.unnecessarySimpa false
namespace Go.Proofs.YtcjdagpadnahfaaGreatDoor
open Go Go.AW
set_option maxRecDepth 100000
set_option maxHeartbeats 8000000

theorem u8_is (x : Int) (h : 0 ≤ x) : AV.c (Value.int IntKind.u8 (IntKind.u8.wrap x)) = byteV (UInt8.ofNat (x % 256).toNat) := by
  have e : IntKind.u8.wrap x = x % 256 := by simp [IntKind.wrap, IntKind.bits, IntKind.signed]
  rw [e]
  have h1 := Int.emod_nonneg x (b := 256) (by decide)
  have h2 := Int.emod_lt_of_pos x (b := 256) (by decide)
  have : ((UInt8.ofNat (x % 256).toNat).toNat : Int) = x % 256 := by
    have e2 : (UInt8.ofNat (x % 256).toNat).toNat = (x % 256).toNat % 256 := rfl
    rw [e2]
    omega
  simp only [byteV]
  rw [this]
theorem fd_is (n : Int) : n.fdiv (2 ^ min 24 IntKind.i64.bits) = n / 16777216 ∧ n.fdiv (2 ^ min 16 IntKind.i64.bits) = n / 65536 ∧ n.fdiv (2 ^ min 8 IntKind.i64.bits) = n / 256 := by
  refine ⟨?_, ?_, ?_⟩
  · show n.fdiv 16777216 = _
    rw [Int.fdiv_eq_ediv_of_nonneg _ (by decide)]
  · show n.fdiv 65536 = _
    rw [Int.fdiv_eq_ediv_of_nonneg _ (by decide)]
  · show n.fdiv 256 = _
    rw [Int.fdiv_eq_ediv_of_nonneg _ (by decide)]
theorem put4_v (n : Int) (h0 : 0 ≤ n) : [AV.c (Value.int IntKind.u8 (IntKind.u8.wrap (n.fdiv (2 ^ min 24 IntKind.i64.bits)))), AV.c (Value.int IntKind.u8 (IntKind.u8.wrap (n.fdiv (2 ^ min 16 IntKind.i64.bits)))), AV.c (Value.int IntKind.u8 (IntKind.u8.wrap (n.fdiv (2 ^ min 8 IntKind.i64.bits)))), AV.c (Value.int IntKind.u8 (IntKind.u8.wrap n))] = (put4 n).map byteV := by
  obtain ⟨e1, e2, e3⟩ := fd_is n
  rw [e1, e2, e3, u8_is _ (by omega), u8_is _ (by omega), u8_is _ (by omega), u8_is _ (by omega)]
  rfl
theorem put_c (out : W) (ho : out.length ≤ 100000000000) (n : Int) (h0 : 0 ≤ n) (i : Nat) (σ : Store) (hi : σ.get i = some (.log 5 out.length)) :
    ACalls E 68 [.lg i (out.map byteV), intV n] σ fun a s => a = .lg i ((out ++ put4 n).map byteV) ∧ s = σ.set i (.log 5 (out.length + 4)) := by
  refine ACalls.enterA [] Tryz.func68 rfl Tryz.ntmps68 Tryz.results68 hmE (by kernel_rfl) (by simp) fun hσ => ?_
  conv => arg 5; cbv
  simp
  have hi1 := (hσ _ _ hi).1
  simp [hi]
  rw [put4_v n h0]
  exact ⟨by omega, by omega, Fin.same (by simp) ⟨rfl, rfl⟩⟩
theorem put0_c (n : Int) (h0 : 0 ≤ n) (σ : Store) :
    ACalls E 68 [.nl, intV n] σ fun a s => a = .lg σ.next ((put4 n).map byteV) ∧ s = σ.alloc (.log 5 4) := by
  refine ACalls.enterA [2000018] Tryz.func68 rfl Tryz.ntmps68 Tryz.results68 hmE (by kernel_rfl) (by simp) fun hσ => ?_
  conv => arg 5; cbv
  simp
  rw [put4_v n h0]
  exact Fin.same (by simp) ⟨rfl, rfl⟩
def entV (e : En) : AV := .agg [str e.name, intV e.off]
def entsV (l : List En) : AV := .ps (l.map entV)
attribute [simp] entV entsV
@[simp high] theorem frzL_entV (l : List En) : frzL (l.map entV) = l.map entV := by rw [frzL_map]; exact List.map_congr_left fun x _ => by simp
theorem mapOf_snoc' {l : List En} {i : Nat} {e : En} (h : l[i]? = some e) : mapOf (l.take (i + 1)) = mapOf (l.take i) ++ put4 e.off := by
  rw [List.take_add_one, h]; simp [mapOf]
theorem mapNm_snoc' {l : List En} {i : Nat} {e : En} (h : l[i]? = some e) : mapNm (l.take (i + 1)) = mapNm (l.take i) ++ (e.name ++ [0]) := by
  rw [List.take_add_one, h]; simp [mapNm]
theorem mapNm_le (l : List En) (i : Nat) : (mapNm (l.take i)).length ≤ (mapNm l).length := by
  conv => rhs; rw [← List.take_append_drop i l]
  rw [show mapNm (l.take i ++ l.drop i) = mapNm (l.take i) ++ mapNm (l.drop i) by simp only [mapNm, List.flatMap_append], List.length_append]
  omega
theorem all_snoc {l : List En} {i : Nat} {e : En} (h : l[i]? = some e) (ha : (l.take i).all entOk = true) (he : entOk e = true) : (l.take (i + 1)).all entOk = true := by
  rw [List.take_add_one, h, List.all_append, ha]; simp [he]
theorem all_no {l : List En} {i : Nat} {e : En} (h : l[i]? = some e) (he : entOk e = false) : l.all entOk = false := by
  rw [List.all_eq_false]; exact ⟨e, List.mem_of_getElem? h, by simp [he]⟩
def enc1 (l : List En) (i : Nat) : W := put4 l.length ++ mapOf (l.take i)
def enc2 (l : List En) (i : Nat) : W := put4 l.length ++ mapOf l ++ mapNm (l.take i)
theorem enc1_snoc {l : List En} {i : Nat} {e : En} (h : l[i]? = some e) : enc1 l (i + 1) = enc1 l i ++ put4 e.off := by simp [enc1, mapOf_snoc' h]
theorem enc2_snoc {l : List En} {i : Nat} {e : En} (h : l[i]? = some e) : enc2 l (i + 1) = enc2 l i ++ e.name ++ [0] := by simp [enc2, mapNm_snoc' h]
theorem enc1_len (l : List En) (i : Nat) : (enc1 l i).length = 4 + 4 * min i l.length := by simp [enc1, mapOf_len]
theorem enc2_len (l : List En) (i : Nat) : (enc2 l i).length = 4 + 4 * l.length + (mapNm (l.take i)).length := by simp [enc2, mapOf_len]; omega
theorem enc10 (l : List En) : enc1 l 0 = put4 l.length := by simp [enc1, mapOf]
theorem enc12 (l : List En) : enc2 l 0 = enc1 l l.length := by simp [enc1, enc2, mapNm]
theorem enc2_all (l : List En) : enc2 l l.length = mapB l := by simp [enc2, mapB]
theorem ofl_off {e : En} (h : entOk e = true) : 0 ≤ e.off := by simp [entOk] at h; omega
theorem Encode7_p (l : List En) (hl : l.length ≤ 10000000) (hn : (mapNm l).length ≤ 10000000000) : Pur E 35 [entsV l] (.tup [bytes (mapL l), intV (mapE l)]) := by
  refine Pur.enter [5000068] Tryz.func35 rfl Tryz.ntmps35 Tryz.results35 hmE (by kernel_rfl) (by simp) (by simp) fun σ hσ => ?_
  conv => arg 5; cbv
  simp
  refine ⟨fun h => by omega, fun _ => ?_⟩
  refine (put0_c l.length (by omega) σ).mono ?_
  rintro r s ⟨rfl, rfl⟩
  simp
  refine loop_x hmE (by kernel_rfl) (· + 1) 0 (fun i : Nat => [(17, intV i), (4, .lg σ.next ((enc1 l i).map byteV))]) (fun i : Nat => σ.alloc (.log 5 (enc1 l i).length)) (fun i : Nat => i ≤ l.length ∧ (l.take i).all entOk = true) (fun i => l.length - i) (by simp) (fun i hi => by simp [hσ]) (by simp [enc10]) (by simp [enc10]) fun i hi => ?_
  obtain ⟨hi, hall⟩ := hi
  simp [-List.all_eq_true]
  refine ⟨fun h => ?_, fun h => ?_⟩
  · obtain ⟨e, he⟩ := get_ex h
    refine ⟨e, he, ?_⟩
    have hf := fits_e e
    simp at hf
    refine Pur.call hf ?_
    have hs := enc1_snoc he
    have hln := enc1_len l i
    cases hok : entOk e with
    | false =>
      have := all_no he hok
      simp [mapL, mapE, this]
    | true =>
      have ha := all_snoc he hall hok
      simp [-List.all_eq_true]
      refine (put_c (enc1 l i) (by omega) e.off (ofl_off hok) σ.next _ (by simp)).mono ?_
      rintro r s ⟨rfl, rfl⟩
      simp [-List.all_eq_true, hs, ha]
      exact ⟨wrap_succ h (by omega), h, by omega⟩
  · obtain rfl : i = l.length := by omega
    rw [List.take_length] at hall
    simp [← enc12]
    refine loop_x hmE (by kernel_rfl) (· + 1) 0 (fun i : Nat => [(31, intV i), (4, .lg σ.next ((enc2 l i).map byteV))]) (fun i : Nat => σ.alloc (.log 5 (enc2 l i).length)) (fun i : Nat => i ≤ l.length) (fun i => l.length - i) (by simp) (fun i hi => by simp [hσ]) (by simp) (by simp) fun i hi => ?_
    simp
    refine ⟨fun h => ?_, fun h => ?_⟩
    · obtain ⟨e, he⟩ := get_ex h
      refine ⟨e, he, ?_⟩
      have hs := enc2_snoc he
      have hln := enc2_len l i
      have hm := mapNm_le l (i + 1)
      rw [mapNm_snoc' he] at hm
      simp at hm
      simp [hs]
      rw [show (enc2 l i).length + (e.name.length + 1) = (enc2 l i).length + e.name.length + 1 by omega]
      exact ⟨by omega, by omega, by omega, by omega, .refl _, wrap_succ h (by omega), h, by omega⟩
    · obtain rfl : i = l.length := by omega
      simp [mapL, mapE, enc2_all, hall]
end Go.Proofs.YtcjdagpadnahfaaGreatDoor
