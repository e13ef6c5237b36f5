/- The reference's encoding of maps; comparisons. No condition. -/
import Derived.Test.YtcjdagpadnahfaaGreatDoorB7
set_option linter.unusedVariables false
set_option linter.unusedSimpArgs false
set_option linter.unnecessarySimpa false
namespace Go.Proofs.YtcjdagpadnahfaaGreatDoor
open Go Go.AW
set_option maxRecDepth 100000
set_option maxHeartbeats 8000000

theorem Texts_p (a b : List W) (ha : a.length ≤ 9223372036854775807) : Pur E 18 [strs a, strs b] (boolV (a == b)) := by
  refine Pur.enter [] Tryz.func18 rfl Tryz.ntmps18 Tryz.results18 hmE (by kernel_rfl) (by simp) (by simp) fun σ hσ => ?_
  conv => arg 5; cbv
  simp
  refine ⟨fun h e => h (by rw [e]), fun hl => ?_⟩
  refine loop_n hmE (by kernel_rfl) a.length (fun i => [(5, intV i)]) (fun i => i ≤ a.length ∧ a.take i = b.take i) (Nat.le_refl _) hσ (by simp) (by simp) (by simp) fun i ⟨hi, he⟩ => ?_
  simp
  refine ⟨fun h => ?_, fun h => ?_⟩
  · rw [wrap_succ h ha]
    have h' : i < b.length := by omega
    refine ⟨a[i], by simp, b[i], by simp, fun hne e => hne (by subst e; rfl), fun e => ⟨rfl, ⟨h, ?_⟩, by omega⟩⟩
    rw [List.take_succ_eq_append_getElem h, List.take_succ_eq_append_getElem h', he, e]
  · rwa [List.take_of_length_le h, List.take_of_length_le (by omega)] at he
@[simp] theorem eqT_e : eqT Tryz.prog 44 = some [.str, .int .i64] := by kernel_rfl
theorem Same7_p (a b : List En) (ha : a.length ≤ 9223372036854775807) : Pur E 17 [entsV a, entsV b] (boolV (a == b)) := by
  refine Pur.enter [] Tryz.func17 rfl Tryz.ntmps17 Tryz.results17 hmE (by kernel_rfl) (by simp) (by simp) fun σ hσ => ?_
  conv => arg 5; cbv
  simp
  refine ⟨fun h e => h (by rw [e]), fun hl => ?_⟩
  refine loop_n hmE (by kernel_rfl) a.length (fun i => [(5, intV i)]) (fun i => i ≤ a.length ∧ a.take i = b.take i) (Nat.le_refl _) hσ (by simp) (by simp) (by simp) fun i ⟨hi, he⟩ => ?_
  simp
  refine ⟨fun h => ?_, fun h => ?_⟩
  · have h' : i < b.length := by omega
    refine ⟨a[i], by simp, b[i], by simp, ?_⟩
    simp [eqAll, eqK]
    rw [wrap_succ h ha]
    have hxy : a[i] = b[i] ↔ (a[i].name = b[i].name ∧ a[i].off = b[i].off) := by
      generalize a[i] = x; generalize b[i] = y
      cases x; cases y; simp
    refine ⟨fun hor e => ?_, fun e0 e1 => ⟨rfl, ⟨h, ?_⟩, by omega⟩⟩
    · subst e; simp at hor
    · rw [List.take_succ_eq_append_getElem h, List.take_succ_eq_append_getElem h', he, hxy.2 ⟨e0, e1⟩]
  · rwa [List.take_of_length_le h, List.take_of_length_le (by omega)] at he
theorem quo_is (n : Int) (h : 0 ≤ n) : n.tdiv 16777216 = n / 16777216 ∧ n.tdiv 65536 = n / 65536 ∧ n.tdiv 256 = n / 256 := by
  exact ⟨Int.tdiv_eq_ediv_of_nonneg h, Int.tdiv_eq_ediv_of_nonneg h, Int.tdiv_eq_ediv_of_nonneg h⟩
theorem put4_w (n : Int) (h0 : 0 ≤ n) (hn : n ≤ 9223372036854775807) : [AV.c (Value.int IntKind.u8 (IntKind.u8.wrap (IntKind.i64.wrap (n.tdiv 16777216)))),
        AV.c (Value.int IntKind.u8 (IntKind.u8.wrap (IntKind.i64.wrap (n.tdiv 65536)))),
        AV.c (Value.int IntKind.u8 (IntKind.u8.wrap (IntKind.i64.wrap (n.tdiv 256)))),
        AV.c (Value.int IntKind.u8 (IntKind.u8.wrap n))] = (put4 n).map byteV := by
  obtain ⟨e1, e2, e3⟩ := quo_is n h0
  rw [e1, e2, e3, wrap64_id (by omega) (by omega), wrap64_id (by omega) (by omega), wrap64_id (by omega) (by omega), u8_is _ (by omega), u8_is _ (by omega), u8_is _ (by omega), u8_is _ (by omega)]
  rfl
theorem Word_c (n : Int) (h0 : 0 ≤ n) (hn : n ≤ 9223372036854775807) (σ : Store) :
    ACalls E 63 [intV n] σ fun a s => a = .lg σ.next ((put4 n).map byteV) ∧ s = σ.alloc (.log 5 4) := by
  refine ACalls.enterA [2000014] Tryz.func63 rfl Tryz.ntmps63 Tryz.results63 hmE (by kernel_rfl) (by simp) fun hσ => ?_
  conv => arg 5; cbv
  simp
  rw [put4_w n h0 hn]
  exact Fin.same (by simp) ⟨rfl, rfl⟩
theorem Word_p (n : Int) (h0 : 0 ≤ n) (hn : n ≤ 9223372036854775807) : Pur E 63 [intV n] (bytes (put4 n)) := by
  refine Pur.enter [] Tryz.func63 rfl Tryz.ntmps63 Tryz.results63 hmE (by kernel_rfl) (by simp) (by simp) fun σ hσ => ?_
  conv => arg 5; cbv
  simp
  have h := put4_w n h0 hn
  simpa using h
theorem Fits7_p (e : En) (hl : e.name.length ≤ 10000000000) : Pur E 64 [entV e] (boolV (entOk e)) := by
  obtain ⟨n, o⟩ := e
  simp at hl
  refine Pur.enter [] Tryz.func64 rfl Tryz.ntmps64 Tryz.results64 hmE (by kernel_rfl) (by simp) (by simp) fun σ hσ => ?_
  conv => arg 5; cbv
  simp
  refine loop_n hmE (by kernel_rfl) n.length (fun i => [(3, intV i)]) (fun i => i ≤ n.length ∧ (0 : UInt8) ∉ n.take i) (by simp) (hσ.alloc_arr (by simp)) (by simp) (by simp) (by simp) fun i ⟨hi, he⟩ => ?_
  by_cases hil : i < n.length
  · obtain ⟨x, hx⟩ := get_ex hil
    have hxi : n[i] = x := (List.getElem?_eq_some_iff.1 hx).2
    simp [-thenK_normal, hil, hx]
    repeat (simp only [thenK_normal]; simp [-thenK_normal, hil, hx])
    rw [hxi]
    refine ⟨fun h0 => ?_, fun h0 => ⟨wrap_succ hil (by omega), ⟨by omega, ?_⟩, by omega⟩⟩
    · have : x = 0 := UInt8.toNat_inj.1 (by simpa using h0)
      subst this
      have hm : (0 : UInt8) ∈ n := List.mem_of_getElem? hx
      simp [entOk, hm]
    · rw [List.take_add_one, hx]
      simp only [Option.toList_some, List.mem_append, List.mem_singleton, not_or]
      exact ⟨he, fun e => h0 (by rw [← e]; rfl)⟩
  · obtain rfl : i = n.length := by omega
    rw [List.take_length] at he
    by_cases h1 : n = []
    · subst h1
      simp [-thenK_normal]
      repeat (simp only [thenK_normal]; simp [-thenK_normal, entOk])
    · have h1' : 0 < n.length := by cases n <;> simp_all
      by_cases h2 : 0 ≤ o
      · simp [-thenK_normal, h1', h2]
        repeat (simp only [thenK_normal]; simp [-thenK_normal, h1', h2])
        cases n <;> simp_all [entOk]
      · simp [-thenK_normal, h1', h2]
        repeat (simp only [thenK_normal]; simp [-thenK_normal, h1', h2])
        simp [entOk, h2]
theorem rEncode7_p (l : List En) (hl : l.length ≤ 10000000) (hn : (mapNm l).length ≤ 10000000000) : Pur E 33 [entsV l] (.tup [bytes (mapL l), intV (mapE l)]) := by
  refine Pur.enter [] Tryz.func33 rfl Tryz.ntmps33 Tryz.results33 hmE (by kernel_rfl) (by simp) (by simp) fun σ hσ => ?_
  conv => arg 5; cbv
  simp
  refine (Word_c l.length (by omega) (by omega) σ).mono ?_
  rintro r s ⟨rfl, rfl⟩
  simp
  refine loop_x hmE (by kernel_rfl) (· + 1) 0 (fun i : Nat => [(5, intV i), (4, .lg σ.next ((enc1 l i).map byteV))]) (fun i : Nat => σ.alloc (.log 5 (enc1 l i).length)) (fun i : Nat => i ≤ l.length ∧ (l.take i).all entOk = true) (fun i => l.length - i) (by simp) (fun i hi => by simp [hσ]) (by simp [enc10]) (by simp [enc10]) fun i hi => ?_
  obtain ⟨hi, hall⟩ := hi
  simp [-List.all_eq_true]
  refine ⟨fun h => ?_, fun h => ?_⟩
  · obtain ⟨e, he⟩ := get_ex h
    have hnl : e.name.length ≤ 10000000000 := by
      have := mapNm_le l (i + 1)
      rw [mapNm_snoc' he] at this
      simp at this; omega
    refine ⟨e, he, ?_⟩
    have hf := Fits7_p e hnl
    simp at hf
    refine Pur.call hf ?_
    have hs := enc1_snoc he
    have hln := enc1_len l i
    cases hok : entOk e with
    | false =>
      have := all_no he hok
      simp [mapL, mapE, this]
    | true =>
      have ha := all_snoc he hall hok
      have hW := Word_p e.off (ofl_off hok) (by simp [entOk] at hok; omega)
      simp at hW
      simp [-List.all_eq_true]
      refine ⟨e, he, ?_⟩
      refine Pur.call hW ?_
      simp [-List.all_eq_true, hs, ha]
      exact ⟨by omega, by omega, wrap_succ h (by omega), h, by omega⟩
  · obtain rfl : i = l.length := by omega
    rw [List.take_length] at hall
    simp [← enc12]
    refine loop_x hmE (by kernel_rfl) (· + 1) 0 (fun i : Nat => [(6, intV i), (4, .lg σ.next ((enc2 l i).map byteV))]) (fun i : Nat => σ.alloc (.log 5 (enc2 l i).length)) (fun i : Nat => i ≤ l.length) (fun i => l.length - i) (by simp) (fun i hi => by simp [hσ]) (by simp) (by simp) fun i hi => ?_
    simp
    refine ⟨fun h => ?_, fun h => ?_⟩
    · obtain ⟨e, he⟩ := get_ex h
      refine ⟨e, he, ?_⟩
      have hs := enc2_snoc he
      have hln := enc2_len l i
      have hm := mapNm_le l (i + 1)
      rw [mapNm_snoc' he] at hm
      simp at hm
      simp [hs]
      rw [show (enc2 l i).length + (e.name.length + 1) = (enc2 l i).length + e.name.length + 1 by omega]
      exact ⟨by omega, by omega, by omega, by omega, .refl _, wrap_succ h (by omega), h, by omega⟩
    · obtain rfl : i = l.length := by omega
      simp [mapL, mapE, enc2_all, hall]
end Go.Proofs.YtcjdagpadnahfaaGreatDoor
