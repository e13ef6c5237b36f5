/- The laws on names and offsets. No condition. -/
import Derived.Test.YtcjdagpadnahfaaGreatDoorB13
set_option linter.unusedVariables false
set_option linter.unusedSimpArgs false
set_option linter.unnecessarySimpa false
namespace Go.Proofs.YtcjdagpadnahfaaGreatDoor
open Go Go.AW
set_option maxRecDepth 100000
set_option maxHeartbeats 8000000

theorem ixK_mem {os : List Int} {l : List M} {n : Nat} {e : En} (hn : n ≤ l.length) (he : e ∈ ixK os l n) : ∃ k m, k < n ∧ l[k]? = some m ∧ e.off = os.getD k 0 ∧ e.name ∈ defsO m.data := by
  rw [ixK, entsK] at he
  obtain ⟨k, hk, he⟩ := List.mem_flatMap.1 he
  obtain ⟨x, hx, rfl⟩ := List.mem_map.1 he
  have hk := List.mem_range.1 hk
  obtain ⟨m, hm⟩ := get_ex (l := l) (i := k) (by omega)
  have e1 : (l.map M.data).getD k [] = m.data := by simp [List.getD, hm]
  rw [e1] at hx
  exact ⟨k, m, hk, hm, rfl, hx⟩
theorem offs_getD {l : List M} (h0 : (fitsI l).2 = 0) {k : Nat} (h : k < l.length) : (offs l)[k]? = some ((offs l).getD k 0) := by
  obtain ⟨x, hx⟩ := get_ex (l := offs l) (i := k) (by rw [offs_len h0]; exact h)
  simp [List.getD, hx]
theorem atI_eq {l : List M} {k : Nat} {v : Int} (h : (offs l)[k]? = some v) : atI l v = some k := by
  cases ha : atI l v with
  | none => exact absurd h (atI_none ha k)
  | some n => rw [offs_inj (atI_some ha) h]
theorem Offsets8_p (l : List M) (c : UInt8) (hll : l.length ≤ 9223372036854775807) (hb : inR l) : Pur E 4 [memsV l, byteV c] (boolV true) := by
  refine Pur.enter [] Tryz.func4 rfl Tryz.ntmps4 Tryz.results4 hmE (by kernel_rfl) (by simp) (by simp) fun σ hσ => ?_
  conv => arg 5; cbv
  simp
  refine Pur.call awake_p ?_
  simp
  refine Pur.call (Few_p l hll) ?_
  simp
  refine ⟨fun hf => ?_, fun hf => ?_⟩
  · refine Pur.call awake_p ?_
    simp
  have hl := fewD_of hf hb
  have h3 := Index8_p l hl
  simp at h3
  refine Pur.call h3 ?_
  by_cases h0 : (fitsI l).2 = 0
  · by_cases hz : idx l = []
    · simp [h0, hz]
    have hlen : 0 < (idx l).length := by cases h : idx l <;> simp_all
    have hi7 := (idx_fine hl).1
    obtain ⟨k, hk⟩ : ∃ k, k = c.toNat % (idx l).length := ⟨_, rfl⟩
    have hkl : k < (idx l).length := by rw [hk]; exact Nat.mod_lt _ hlen
    obtain ⟨e, he⟩ := get_ex hkl
    have htm : (c.toNat : Int).tmod ((idx l).length : Int) = (k : Int) := by rw [hk]; rfl
    have hmem : e ∈ ixK (offs l) l l.length := by have := List.mem_of_getElem? he; rwa [idx, if_pos h0] at this
    obtain ⟨q, m, hq, hm, ho, hn⟩ := ixK_mem (Nat.le_refl _) hmem
    have hoq := offs_getD h0 hq
    rw [← ho] at hoq
    have hat := atI_eq hoq
    have h4 := At_p l hl e.off
    rw [atV, hat] at h4
    have hm1 := (hl.1.2 m (List.mem_of_getElem? hm)).2.2.2.2.2
    have h6 := rDefs_p m.data (by omega)
    have hll := hl.1.1
    have hdl := defsO_len m.data
    simp at h4 h6
    have hc := c.toNat_lt
    have hcw : IntKind.i64.wrap (c.toNat : Int) = c.toNat := wrap64_id (by omega) (by omega)
    simp [h0, hz, hcw, htm, he]
    refine Pur.call h4 ?_
    simp [hm]
    refine ⟨by omega, fun _ => ?_⟩
    refine Pur.call h6 ?_
    simp
    obtain ⟨d, hd⟩ : ∃ d, d = defsO m.data := ⟨_, rfl⟩
    rw [← hd] at hn hdl
    rw [← hd]
    refine loop_n hmE (by kernel_rfl) d.length (fun i => [(11, intV i)]) (fun i => i ≤ d.length ∧ ∀ j x, j < i → d[j]? = some x → x ≠ e.name) (by simp) (hσ.alloc_arr (by simp)) (by simp) (by simp) (by simp) fun i ⟨hi, hno⟩ => ?_
    by_cases h : i < d.length
    · obtain ⟨x, hx⟩ := get_ex h
      simp [hx, h]
      refine fun hne => ⟨wrap_succ h (by omega), ⟨h, fun j y hj hy => ?_⟩, by omega⟩
      rcases Nat.lt_succ_iff_lt_or_eq.1 hj with hj | rfl
      · exact hno j y hj hy
      · have e2 : d[j] = y := (List.getElem?_eq_some_iff.1 hy).2
        rw [← e2]; exact hne
    · obtain ⟨j, hj⟩ := List.getElem?_of_mem hn
      exact absurd rfl (hno j _ (by have := (List.getElem?_eq_some_iff.1 hj).1; omega) hj)
  · simp [h0]
theorem ixK_up {os : List Int} {l : List M} (hos : ∀ i j, i ≤ j → j < l.length → os.getD i 0 ≤ os.getD j 0) : ∀ n, n ≤ l.length → (ixK os l n).Pairwise fun a b => a.off ≤ b.off
  | 0, _ => by simp [ixK, entsK]
  | n + 1, h => by
    have e : ixK os l (n + 1) = ixK os l n ++ (defsO ((l.map M.data).getD n [])).map fun x => (⟨x, os.getD n 0⟩ : En) := by rw [ixK, entsK_succ]; rfl
    rw [e, List.pairwise_append]
    refine ⟨ixK_up hos n (by omega), ?_, ?_⟩
    · rw [List.pairwise_map]
      exact List.pairwise_of_forall fun _ _ => Int.le_refl _
    · intro a ha b hb
      obtain ⟨k, m, hk, _, ho, _⟩ := ixK_mem (by omega) ha
      obtain ⟨x, _, rfl⟩ := List.mem_map.1 hb
      rw [ho]
      exact hos k n (by omega) (by omega)
theorem offs_up {l : List M} (h0 : (fitsI l).2 = 0) (i j : Nat) (hij : i ≤ j) (hj : j < l.length) : (offs l).getD i 0 ≤ (offs l).getD j 0 := by
  obtain ⟨_, h1, _⟩ := offs_get (offs_getD h0 (show i < l.length by omega))
  obtain ⟨_, h2, _⟩ := offs_get (offs_getD h0 hj)
  rw [h1, h2]
  rcases Nat.lt_or_ge i j with h | h
  · have := szp_lt l i j h (by omega)
    omega
  · have : i = j := by omega
    subst this; omega
theorem nmsD_split {l : List M} {i : Nat} {m : M} (h : l[i]? = some m) {j : Nat} {x : W} (hx : (defsO m.data)[j]? = some x) : (nmsD l)[(nmsD (l.take i)).length + j]? = some x := by
  have e : nmsD l = nmsD (l.take (i + 1)) ++ nmsD (l.drop (i + 1)) := by
    conv => lhs; rw [← List.take_append_drop (i + 1) l]
    simp only [nmsD, namesL, List.map_append, List.flatMap_append]
  rw [e, nmsD_snoc h, List.append_assoc, List.getElem?_append_right (by omega)]
  have hj := (List.getElem?_eq_some_iff.1 hx).1
  rw [Nat.add_sub_cancel_left, List.getElem?_append_left hj, hx]
theorem idx_facts {l : List M} (h0 : (fitsI l).2 = 0) : (idx l).map En.name = nmsD l ∧ (idx l).Pairwise (fun a b => a.off ≤ b.off) := by
  rw [idx, if_pos h0]
  refine ⟨by have := ixK_names (offs l) l l.length (Nat.le_refl _); rwa [List.take_length] at this, ixK_up (offs_up h0) _ (Nat.le_refl _)⟩
theorem Names8_p (l : List M) (hll : l.length ≤ 9223372036854775807) (hb : inR l) : Pur E 6 [memsV l] (boolV true) := by
  refine Pur.enter [] Tryz.func6 rfl Tryz.ntmps6 Tryz.results6 hmE (by kernel_rfl) (by simp) (by simp) fun σ hσ => ?_
  conv => arg 5; cbv
  simp
  refine Pur.call awake_p ?_
  simp
  refine Pur.call (Few_p l hll) ?_
  simp
  refine ⟨fun hf => ?_, fun hf => ?_⟩
  · refine Pur.call awake_p ?_
    simp
  have hl := fewD_of hf hb
  have h3 := Index8_p l hl
  simp at h3
  refine Pur.call h3 ?_
  by_cases h0 : (fitsI l).2 = 0
  · obtain ⟨g1, g2⟩ := idx_facts h0
    have hi7 := (idx_fine hl).1
    have gl : (idx l).length = (nmsD l).length := by rw [← g1]; simp
    obtain ⟨A, hA⟩ : ∃ A, A = idx l := ⟨_, rfl⟩
    rw [← hA] at g1 g2 gl hi7
    rw [← hA]
    have hll := hl.1.1
    simp [h0]
    refine loop_n hmE (by kernel_rfl) l.length (fun i => [(6, intV i), (5, intV (nmsD (l.take i)).length)]) (fun i => i ≤ l.length) (by simp) hσ (by simp) (by simp) (by simp [nmsD, namesL]) fun i hi => ?_
    simp
    refine ⟨fun h => ?_, fun h => ?_⟩
    · obtain ⟨m, hm⟩ := get_ex h
      refine ⟨m, hm, ?_⟩
      have hm1 := (hl.1.2 m (List.mem_of_getElem? hm)).2.2.2.2.2
      have hD := Defs_p m.data (by omega)
      have hdl := defsO_len m.data
      simp at hD
      refine Pur.call hD ?_
      simp
      have hsp := fun j x => nmsD_split (j := j) (x := x) hm
      have hsn := nmsD_snoc hm
      obtain ⟨d, hd⟩ : ∃ d, d = defsO m.data := ⟨_, rfl⟩
      rw [← hd] at hdl hsp hsn
      rw [← hd]
      obtain ⟨N, hN⟩ : ∃ N, N = (nmsD (l.take i)).length := ⟨_, rfl⟩
      rw [← hN] at hsp
      have hsl : (nmsD (l.take (i + 1))).length = N + d.length := by rw [hsn, List.length_append, hN]
      rw [← hN, hsl]
      obtain ⟨g, hg⟩ : ∃ g : Nat → Nat, ∀ j, g j = N + j := ⟨fun j => N + j, fun _ => rfl⟩
      have hg0 : g 0 = N := hg 0
      have hgd : g d.length = N + d.length := hg _
      rw [← hgd, ← hg0]
      refine loop_n hmE (by kernel_rfl) d.length (fun j => [(8, intV j), (5, intV (g j))]) (fun j => j ≤ d.length) (by simp) hσ (by simp) (by simp) (by simp) fun j hj => ?_
      by_cases hjl : j < d.length
      · obtain ⟨x, hx⟩ := get_ex hjl
        have hnx := hsp j x hx
        rw [← g1, List.getElem?_map] at hnx
        obtain ⟨e, he, hex⟩ := Option.map_eq_some_iff.1 hnx
        rw [← hg] at he
        have hNl : g j < A.length := (List.getElem?_eq_some_iff.1 he).1
        have hdj : d[j] = x := (List.getElem?_eq_some_iff.1 hx).2
        have hAj : A[g j] = e := (List.getElem?_eq_some_iff.1 he).2
        have hgs : g (j + 1) = g j + 1 := by rw [hg, hg]; omega
        have hnl : ¬ A.length ≤ g j := by omega
        by_cases hk0 : g j = 0
        · simp [-thenK_normal, hjl, hx, he, hNl, hdj, hAj, hnl, hex, hk0]
          repeat (simp only [thenK_normal]; simp [-thenK_normal, hjl, hx, he, hNl, hdj, hAj, hnl, hex, hk0])
          rw [hk0] at he hNl hgs
          have hAn : ¬ A = [] := by rintro rfl; simp at hNl
          refine ⟨hAn, fun _ => ⟨e, he, hex, fun _ => ⟨⟨by rw [hgs]; rfl, wrap_succ hjl (by omega)⟩, hjl, by omega⟩⟩⟩
        · have hk1 : 0 < g j := by omega
          obtain ⟨a, ha⟩ := get_ex (l := A) (i := g j - 1) (by omega)
          have hw : IntKind.i64.wrap ((g j : Int) - 1) = ((g j - 1 : Nat) : Int) := by rw [wrap64_id (by omega) (by omega)]; omega
          have hle : a.off ≤ e.off := by
            have h1 := (List.getElem?_eq_some_iff.1 ha)
            have h2 := List.pairwise_iff_getElem.1 g2 (g j - 1) (g j) (by omega) hNl (by omega)
            rw [h1.2, hAj] at h2
            exact h2
          have hnlt : ¬ e.off < a.off := by omega
          simp [-thenK_normal, hjl, hx, he, hNl, hdj, hAj, hnl, hex, hk0, hk1]
          repeat (simp only [thenK_normal]; simp [-thenK_normal, hjl, hx, he, hNl, hdj, hAj, hnl, hex, hk0, hk1, hw, ha, hle, hnlt])
          exact ⟨⟨by rw [hgs]; exact wrap64_id (by omega) (by omega), wrap_succ hjl (by omega)⟩, hjl, by omega⟩
      · obtain rfl : j = d.length := by omega
        simp [-thenK_normal]
        repeat (simp only [thenK_normal]; simp [-thenK_normal])
        exact ⟨wrap_succ h (by omega), h, by omega⟩
    · obtain rfl : i = l.length := by omega
      rw [List.take_length, gl]
  · simp [h0, idx]
end Go.Proofs.YtcjdagpadnahfaaGreatDoor
