/- The reference's encoding of maps; comparisons. No condition. -/
import Derived.Test.YtcjdagpadnahfaaGreatDoorB7
set_option linter.unusedVariables false
set_option linter.unusedSimpArgs false
set_option linter.unnecessarySimpa false
namespace Go.Proofs.YtcjdagpadnahfaaGreatDoor
open Go Go.AW
set_option maxRecDepth 100000
set_option maxHeartbeats 8000000

theorem Texts_p (a b : List W) (ha : a.length ≤ 9223372036854775807) : Pur E 18 [strs a, strs b] (boolV (a == b)) := by
  refine Pur.enter [] Tryz.func18 rfl Tryz.ntmps18 Tryz.results18 hmE (by kernel_rfl) (by simp) (by simp) fun σ hσ => ?_
  conv => arg 5; cbv
  simp
  refine ⟨fun h e => h (by rw [e]), fun hl => ?_⟩
  refine loop_n hmE (by kernel_rfl) a.length (fun i => [(5, intV i)]) (fun i => i ≤ a.length ∧ a.take i = b.take i) (Nat.le_refl _) hσ (by simp) (by simp) (by simp) fun i ⟨hi, he⟩ => ?_
  simp
  refine ⟨fun h => ?_, fun h => ?_⟩
  · rw [wrap_succ h ha]
    have h' : i < b.length := by omega
    refine ⟨a[i], by simp, b[i], by simp, fun hne e => hne (by subst e; rfl), fun e => ⟨rfl, ⟨h, ?_⟩, by omega⟩⟩
    rw [List.take_succ_eq_append_getElem h, List.take_succ_eq_append_getElem h', he, e]
  · rwa [List.take_of_length_le h, List.take_of_length_le (by omega)] at he
@[simp] theorem eqT_e : eqT Tryz.prog 44 = some [.str, .int .i64] := by kernel_rfl
theorem Same7_p (a b : List En) (ha : a.length ≤ 9223372036854775807) : Pur E 17 [entsV a, entsV b] (boolV (a == b)) := by
  refine Pur.enter [] Tryz.func17 rfl Tryz.ntmps17 Tryz.results17 hmE (by kernel_rfl) (by simp) (by simp) fun σ hσ => ?_
  conv => arg 5; cbv
  simp
  refine ⟨fun h e => h (by rw [e]), fun hl => ?_⟩
  refine loop_n hmE (by kernel_rfl) a.length (fun i => [(5, intV i)]) (fun i => i ≤ a.length ∧ a.take i = b.take i) (Nat.le_refl _) hσ (by simp) (by simp) (by simp) fun i ⟨hi, he⟩ => ?_
  simp
  refine ⟨fun h => ?_, fun h => ?_⟩
  · have h' : i < b.length := by omega
    refine ⟨a[i], by simp, b[i], by simp, ?_⟩
    simp [eqAll, eqK]
    rw [wrap_succ h ha]
    have hxy : a[i] = b[i] ↔ (a[i].name = b[i].name ∧ a[i].off = b[i].off) := by
      generalize a[i] = x; generalize b[i] = y
      cases x; cases y; simp
    refine ⟨fun hor e => ?_, fun e0 e1 => ⟨rfl, ⟨h, ?_⟩, by omega⟩⟩
    · subst e; simp at hor
    · rw [List.take_succ_eq_append_getElem h, List.take_succ_eq_append_getElem h', he, hxy.2 ⟨e0, e1⟩]
  · rwa [List.take_of_length_le h, List.take_of_length_le (by omega)] at he
theorem quo_is (n : Int) (h : 0 ≤ n) : n.tdiv 16777216 = n / 16777216 ∧ n.tdiv 65536 = n / 65536 ∧ n.tdiv 256 = n / 256 := by
  exact ⟨Int.tdiv_eq_ediv_of_nonneg h, Int.tdiv_eq_ediv_of_nonneg h, Int.tdiv_eq_ediv_of_nonneg h⟩
theorem put4_w (n : Int) (h0 : 0 ≤ n) (hn : n ≤ 9223372036854775807) : [AV.c (Value.int IntKind.u8 (IntKind.u8.wrap (IntKind.i64.wrap (n.tdiv 16777216)))),
        AV.c (Value.int IntKind.u8 (IntKind.u8.wrap (IntKind.i64.wrap (n.tdiv 65536)))),
        AV.c (Value.int IntKind.u8 (IntKind.u8.wrap (IntKind.i64.wrap (n.tdiv 256)))),
        AV.c (Value.int IntKind.u8 (IntKind.u8.wrap n))] = (put4 n).map byteV := by
  obtain ⟨e1, e2, e3⟩ := quo_is n h0
  rw [e1, e2, e3, wrap64_id (by omega) (by omega), wrap64_id (by omega) (by omega), wrap64_id (by omega) (by omega), u8_is _ (by omega), u8_is _ (by omega), u8_is _ (by omega), u8_is _ (by omega)]
  rfl
theorem Word_p (n : Int) (h0 : 0 ≤ n) (hn : n ≤ 9223372036854775807) : Pur E 63 [intV n] (bytes (put4 n)) := by
  refine Pur.enter [] Tryz.func63 rfl Tryz.ntmps63 Tryz.results63 hmE (by kernel_rfl) (by simp) (by simp) fun σ hσ => ?_
  conv => arg 5; cbv
  simp
  have h := put4_w n h0 hn
  simpa using h
end Go.Proofs.YtcjdagpadnahfaaGreatDoor
