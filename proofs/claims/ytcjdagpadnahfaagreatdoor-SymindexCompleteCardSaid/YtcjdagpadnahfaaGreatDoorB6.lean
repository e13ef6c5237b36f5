/- Definitions. No condition. -/
import Derived.Test.YtcjdagpadnahfaaGreatDoorB5
import Derived.Test.YtcjdagpadnahfaaGreatDoorA10
set_option linter.unusedVariables false
set_option linter.unusedSimpArgs false
set_option linter.unnecessarySimpa false
namespace Go.Proofs.YtcjdagpadnahfaaGreatDoor
open Go Go.AW
set_option maxRecDepth 100000
set_option maxHeartbeats 8000000

/-- The definitions among the first i symbols. -/
def dfs (l : List Sm) : List W := (l.filter isDef).map Sm.name
theorem dfs_snoc {l : List Sm} {i : Nat} {s : Sm} (h : l[i]? = some s) : dfs (l.take (i + 1)) = dfs (l.take i) ++ dfs [s] := by
  rw [List.take_add_one, h]; simp [dfs]
theorem dfs_len (l : List Sm) : (dfs l).length ≤ l.length := by
  simp [dfs]; exact List.length_filter_le _ _
theorem Defs1_p (i : Int) (s : Sm) : Pur E 45 [intV i, symV s] (strs (dfs [s])) := by
  refine Pur.enter [] Tryz.func45 rfl Tryz.ntmps45 Tryz.results45 hmE (by kernel_rfl) (by simp) (by simp) fun σ hσ => ?_
  conv => arg 5; cbv
  by_cases h1 : s.bind = 1
  · simp [h1, dfs, isDef]
  · by_cases h2 : s.bind = 2
    · simp [h1, h2, dfs, isDef]
    · simp [h1, h2, dfs, isDef]
theorem collectS_p (l : List Sm) (hl : l.length ≤ 1000000) : Pur E 44 [symsV l, .fn (.func 45) [] []] (strs (dfs l)) := by
  refine Pur.enter [3000005] Tryz.func44 rfl Tryz.ntmps44 Tryz.results44 hmE (by kernel_rfl) (by simp) (by simp) fun σ hσ => ?_
  conv => arg 5; cbv
  simp
  refine loop_x hmE (by kernel_rfl) (· + 1) 0 (fun i : Nat => [(10, intV i), (5, .lg σ.next ((dfs (l.take i)).map str))]) (fun i : Nat => σ.alloc (.log 9 (dfs (l.take i)).length)) (fun i : Nat => i ≤ l.length) (fun i => l.length - i) (by simp) (fun i hi => by simp [hσ]) (by simp [dfs]) (by simp [dfs]) fun i hi => ?_
  simp
  refine ⟨fun h => ?_, fun h => by rw [List.take_of_length_le h]⟩
  obtain ⟨a, ha⟩ := get_ex h
  have hs := dfs_snoc ha
  have h1 := dfs_len (l.take i)
  have h2 := dfs_len [a]
  have h3 : (l.take i).length ≤ l.length := by simp; omega
  simp at h2
  refine ⟨a, ha, ?_⟩
  have hD := Defs1_p i a
  simp at hD
  refine Pur.call hD ?_
  simp [hs]
  exact ⟨by omega, by omega, wrap_succ h (by omega), h, by omega⟩
theorem Defs_p (b : W) (hb : b.length ≤ 1000000) : Pur E 19 [bytes b] (strs (defsO b)) := by
  have hd := Decode_p b hb
  have hc := collectS_p (decO b).2.1 (by have := (decO_facts b).2.2; omega)
  simp [decV, objV] at hd hc
  refine Pur.enter [] Tryz.func19 rfl Tryz.ntmps19 Tryz.results19 hmE (by kernel_rfl) (by simp) (by simp) fun σ hσ => ?_
  conv => arg 5; cbv
  simp
  refine Pur.call hd ?_
  simp
  refine Pur.call hc ?_
  simp [dfs, defsO]
theorem names1_p (i : Int) (m : M) (hb : m.data.length ≤ 1000000) : Pur E 100 [intV i, memV m] (strs (defsO m.data)) := by
  have hd := Defs_p m.data hb
  simp at hd
  refine Pur.enter [] Tryz.func100 rfl Tryz.ntmps100 Tryz.results100 hmE (by kernel_rfl) (by simp) (by simp) fun σ hσ => ?_
  conv => arg 5; cbv
  simp
  refine Pur.call hd ?_
  simp
def nmsD (l : List M) : List W := namesL (l.map M.data)
theorem nmsD_snoc {l : List M} {i : Nat} {m : M} (h : l[i]? = some m) : nmsD (l.take (i + 1)) = nmsD (l.take i) ++ defsO m.data := by
  rw [List.take_add_one, h]; simp [nmsD, namesL]
theorem nmsD_le {l : List M} (hl : fewM l) (i : Nat) : (nmsD (l.take i)).length ≤ 100000 * i := by
  induction i with
  | zero => simp [nmsD, namesL]
  | succ i ih =>
    cases hm : l[i]? with
    | none =>
      have : l.take (i + 1) = l.take i := by rw [List.take_add_one, hm]; simp
      rw [this]; omega
    | some m =>
      rw [nmsD_snoc hm, List.length_append]
      have h1 := defsO_len m.data
      have h2 := (hl.2 m (List.mem_of_getElem? hm)).2.2.2.2.2
      omega
theorem collectM_p (l : List M) (hl : fewM l) : Pur E 99 [memsV l, .fn (.func 100) [] []] (strs (nmsD l)) := by
  refine Pur.enter [3000005] Tryz.func99 rfl Tryz.ntmps99 Tryz.results99 hmE (by kernel_rfl) (by simp) (by simp) fun σ hσ => ?_
  conv => arg 5; cbv
  simp
  refine loop_x hmE (by kernel_rfl) (· + 1) 0 (fun i : Nat => [(10, intV i), (5, .lg σ.next ((nmsD (l.take i)).map str))]) (fun i : Nat => σ.alloc (.log 9 (nmsD (l.take i)).length)) (fun i : Nat => i ≤ l.length) (fun i => l.length - i) (by simp) (fun i hi => by simp [hσ]) (by simp [nmsD, namesL]) (by simp [nmsD, namesL]) fun i hi => ?_
  simp
  refine ⟨fun h => ?_, fun h => by rw [List.take_of_length_le h]⟩
  obtain ⟨a, ha⟩ := get_ex h
  have hs := nmsD_snoc ha
  have h1 := nmsD_le hl i
  have hdl := (hl.2 a (List.mem_of_getElem? ha)).2.2.2.2.2
  have h2 := defsO_len a.data
  have hll := hl.1
  refine ⟨a, ha, ?_⟩
  have hD := names1_p i a (by omega)
  simp at hD
  refine Pur.call hD ?_
  simp [hs]
  exact ⟨by omega, by omega, wrap_succ h (by omega), h, by omega⟩
theorem snames_p (l : List M) (hl : fewM l) : Pur E 73 [memsV l] (strs (nmsD l)) := by
  have h := collectM_p l hl
  simp at h
  refine Pur.enter [] Tryz.func73 rfl Tryz.ntmps73 Tryz.results73 hmE (by kernel_rfl) (by simp) (by simp) fun σ hσ => ?_
  conv => arg 5; cbv
  simp
  refine Pur.call h ?_
  simp
theorem Size_p (ns : List W) (hl : ns.length ≤ 200000000) (hn : ∀ n ∈ ns, n.length ≤ 255) : Pur E 74 [strs ns] (intV (msz ns)) := by
  refine Pur.enter [] Tryz.func74 rfl Tryz.ntmps74 Tryz.results74 hmE (by kernel_rfl) (by simp) (by simp) fun σ hσ => ?_
  conv => arg 5; cbv
  simp
  refine loop_n hmE (by kernel_rfl) ns.length (fun i => [(8, intV i), (3, intV (msz (ns.take i)))]) (fun i => i ≤ ns.length) (Nat.le_refl _) hσ (by simp) (by simp [msz]) (by simp [msz]) fun i hi => ?_
  simp
  refine ⟨fun h => ?_, fun h => by rw [List.take_of_length_le h]⟩
  obtain ⟨a, ha⟩ := get_ex h
  have hm := msz_take ha
  have h1 := msz_le (k := 0) (ns := ns.take i) fun n hn' => hn n (List.mem_of_mem_take hn')
  have h2 := hn a (List.mem_of_getElem? ha)
  have h3 : (ns.take i).length ≤ ns.length := by simp; omega
  simp [ha, hm]
  have e1 : IntKind.i64.wrap (4 + (a.length : Int)) = 4 + a.length := wrap64_id (by omega) (by omega)
  have e2 : IntKind.i64.wrap (4 + (a.length : Int) + 1) = 4 + a.length + 1 := wrap64_id (by omega) (by omega)
  rw [e1, e2, wrap64_id (by omega) (by omega)]
  exact ⟨⟨by omega, wrap_succ h (by omega)⟩, h, by omega⟩
theorem rDefs_p (b : W) (hb : b.length ≤ 1000000) : Pur E 20 [bytes b] (strs (defsO b)) := by
  have hd := rDecode_p b hb
  obtain ⟨l, hl⟩ : ∃ l, l = (decO b).2.1 := ⟨_, rfl⟩
  have hll : l.length ≤ 1000000 := by have := (decO_facts b).2.2; rw [hl]; omega
  have hdf : defsO b = dfs l := by rw [hl]; rfl
  simp [decV, objV] at hd
  rw [← hl] at hd
  rw [hdf]
  refine Pur.enter [3000003] Tryz.func20 rfl Tryz.ntmps20 Tryz.results20 hmE (by kernel_rfl) (by simp) (by simp) fun σ hσ => ?_
  conv => arg 5; cbv
  simp
  refine Pur.call hd ?_
  simp
  refine loop_x hmE (by kernel_rfl) (· + 1) 0 (fun i : Nat => [(6, intV i), (3, .lg σ.next ((dfs (l.take i)).map str))]) (fun i : Nat => (σ.alloc (.log 9 (dfs (l.take i)).length)).alloc (.arr 71 0 [.agg [.ps (l.map symV), .ps ((decO b).2.2.map byteV)]])) (fun i : Nat => i ≤ l.length) (fun i => l.length - i) (by simp) (fun i hi => ⟨by simp, StoreBel.alloc_arr (StoreBel.alloc_log hσ _ _) (by simp), by simp⟩) (by simp [dfs]) (by simp [dfs]) fun i hi => ?_
  by_cases hil : i < l.length
  · obtain ⟨a, ha⟩ := get_ex hil
    have hli : l[i] = a := (List.getElem?_eq_some_iff.1 ha).2
    have hs := dfs_snoc ha
    have h1 := dfs_len (l.take i)
    have h3 : (l.take i).length ≤ l.length := by simp; omega
    by_cases q1 : a.bind = 1
    · have e1 : dfs [a] = [a.name] := by simp [dfs, isDef, q1]
      rw [e1] at hs
      simp [-thenK_normal, hil, ha, hli, q1]
      repeat (simp only [thenK_normal]; simp [-thenK_normal, hil, ha, hli, q1, hs])
      exact ⟨by omega, by omega, wrap_succ hil (by omega), hil, by omega⟩
    · by_cases q2 : a.bind = 2
      · have e1 : dfs [a] = [a.name] := by simp [dfs, isDef, q2]
        rw [e1] at hs
        simp [-thenK_normal, hil, ha, hli, q1, q2]
        repeat (simp only [thenK_normal]; simp [-thenK_normal, hil, ha, hli, q1, q2, hs])
        exact ⟨by omega, by omega, wrap_succ hil (by omega), hil, by omega⟩
      · have e1 : dfs [a] = [] := by simp [dfs, isDef, q1, q2]
        rw [e1] at hs
        simp [-thenK_normal, hil, ha, hli, q1, q2]
        repeat (simp only [thenK_normal]; simp [-thenK_normal, hil, ha, hli, q1, q2, hs])
        exact ⟨wrap_succ hil (by omega), hil, by omega⟩
  · obtain rfl : i = l.length := by omega
    simp [-thenK_normal]
    repeat (simp only [thenK_normal]; simp [-thenK_normal])
theorem fits_e (e : En) : Pur E 69 [.agg [str e.name, intV e.off]] (boolV (entOk e)) := by
  obtain ⟨n, o⟩ := e
  have hC := Contains_p n
  refine Pur.enter [] Tryz.func69 rfl Tryz.ntmps69 Tryz.results69 hmE (by kernel_rfl) (by simp) (by simp) fun σ hσ => ?_
  conv => arg 5; cbv
  by_cases h1 : n = []
  · repeat (simp only [thenK_normal]; simp [-thenK_normal, h1, entOk])
  repeat (simp only [thenK_normal]; simp [-thenK_normal, h1])
  refine Pur.call (by simpa using hC) ?_
  have hie : n.isEmpty = false := by cases n <;> simp_all
  cases hc : n.contains 0 with
  | true =>
    have hm : 0 ∈ n := by simpa using hc
    simp [-thenK_normal]
    repeat (simp only [thenK_normal]; simp [-thenK_normal])
    simp [entOk, hc, hie, hm]
  | false =>
    have hm : 0 ∉ n := by simpa using hc
    by_cases h0 : 0 ≤ o
    · simp [-thenK_normal, h0]
      repeat (simp only [thenK_normal]; simp [-thenK_normal, h0])
      simp only [entOk, hc, hie]
      simp [h0, hm]
    · have h0' : o < 0 := by omega
      simp [-thenK_normal, h0, h0']
      repeat (simp only [thenK_normal]; simp [-thenK_normal, h0, h0'])
      simp only [entOk, hc, hie]
      simp [h0, hm]
end Go.Proofs.YtcjdagpadnahfaaGreatDoor
