/- The complete archive read back: the law. No condition. -/
import Derived.Test.YtcjdagpadnahfaaGreatDoorQ2
import Derived.Test.YtcjdagpadnahfaaGreatDoorB15
import Derived.Test.YtcjdagpadnahfaaGreatDoorP10
set_option linter.unusedVariables false
set_option linter.unusedSimpArgs false
set_option linter.unnecessarySimpa false
namespace Go.Proofs.YtcjdagpadnahfaaGreatDoor
open Go Go.AW
set_option maxRecDepth 100000
set_option maxHeartbeats 8000000

theorem decS_sz : ∀ (n : Nat) (b : W) (l : List Sm), ((decS n b l).2.1.map fun s => s.name.length + 5).sum ≤ (l.map fun s => s.name.length + 5).sum + b.length
  | 0, b, l => by simp [decS]
  | n + 1, b, l => by
    unfold decS
    split
    · simp
    · rename_i hb
      split
      · have ih := decS_sz n (b.drop (10 + (b.getD 9 0).toNat)) (l ++ [symAt b])
        have hn : (symAt b).name.length ≤ (b.getD 9 0).toNat := by simp [symAt]; omega
        simp only [List.map_append, List.sum_append, List.length_drop, List.map_cons, List.map_nil, List.sum_cons, List.sum_nil] at ih
        omega
      · simp
theorem defsO_sz (b : W) : ((defsO b).map fun (n : List UInt8) => n.length + 5).sum ≤ b.length := by
  have h : ((decO b).2.1.map fun s => s.name.length + 5).sum ≤ b.length := by
    unfold decO
    split
    · simp
    · split
      · simp
      · split
        · simp
        · split
          · simp
          · have := decS_sz (num4 (b.drop 4)) (b.drop 8) []
            simp at this ⊢
            omega
  have hf : ∀ l : List Sm, ((l.filter isDef).map fun s => s.name.length + 5).sum ≤ (l.map fun s => s.name.length + 5).sum := by
    intro l
    induction l with
    | nil => simp
    | cons s l ih =>
      rw [List.filter_cons]
      split
      · simp at ih ⊢; omega
      · simp at ih ⊢; omega
  have := hf (decO b).2.1
  rw [defsO, List.map_map]
  exact Nat.le_trans this h
theorem msz_szs (l : List M) : msz (nmsD l) ≤ 4 + szs l := by
  have h : ∀ l : List M, ((nmsD l).map fun (n : List UInt8) => n.length + 5).sum ≤ szs l := by
    intro l
    induction l with
    | nil => simp [nmsD, namesL]
    | cons m l ih =>
      have := defsO_sz m.data
      simp [nmsD, namesL, szs] at this ih ⊢
      omega
  have := h l
  unfold msz
  omega
theorem cmp_short {l : List M} (hl : fewD l) (hf : few20 l = true) (h0 : (fitsI l).2 = 0) : (mapL (idx l)).length = msz (nmsD l) ∧ (cmpL l).length ≤ 800000 := by
  have hml : (mapL (idx l)).length = msz (nmsD l) := by
    have gok := ixK_ok hl h0
    have gn := ixK_names (offs l) l l.length (Nat.le_refl _)
    rw [List.take_length] at gn
    rw [idx, if_pos h0, mapL, if_pos gok, mapB_len, gn]
  refine ⟨hml, ?_⟩
  have hms := msz_szs l
  simp only [few20, Bool.and_eq_true, List.all_eq_true, decide_eq_true_eq] at hf
  obtain ⟨h1, h2, h3⟩ := hf
  have p1 := preMap_len5 (hasD l) (mapL (idx l))
  have p2 := preTab_len5 (nmsT l)
  have p3 : (nmsT l).length ≤ 302 * 20 := by
    have := bld_len5 (l.map M.name) fun n hn => by obtain ⟨m, hm, rfl⟩ := List.mem_map.1 hn; exact (h1 m hm).1
    simp at this
    unfold nmsT bldT
    split
    · omega
    · simp
  have p4 := memsL_len5 (zipL l) fun p hp => (h1 _ (List.of_mem_zip hp).1).2
  have p5 : (zipL l).length ≤ 20 := by simp [zipL]; omega
  unfold cmpL outL
  rw [if_pos h0]
  simp only [magic, eachL, List.length_append, List.length_cons, List.length_nil]
  omega
/-- The entries while a member's definitions are added. -/
def wK (l : List M) (i : Nat) (o : Int) (d : List W) (j : Nat) : List En := ixK (offs l) l i ++ entL o (d.take j)
theorem wK_0 (l : List M) (i : Nat) (o : Int) (d : List W) : wK l i o d 0 = ixK (offs l) l i := by simp [wK, entL]
theorem wK_succ {l : List M} {i : Nat} {o : Int} {d : List W} {j : Nat} {x : W} (h : d[j]? = some x) : wK l i o d (j + 1) = wK l i o d j ++ [⟨x, o⟩] := by rw [wK, entL_snoc h, wK, List.append_assoc]
theorem wK_end {l : List M} {i : Nat} {m : M} {o : Int} (h : l[i]? = some m) (ho : (offs l)[i]? = some o) : wK l i o (defsO m.data) (defsO m.data).length = ixK (offs l) l (i + 1) := by rw [wK, List.take_length, ixK_snoc h ho]
theorem wK_len (l : List M) (i : Nat) (o : Int) (d : List W) (j : Nat) (h : j ≤ d.length) : (wK l i o d j).length = (ixK (offs l) l i).length + j := by simp [wK, entL]; omega
theorem Complete8_p (k : Int) (l : List M) (hll : l.length ≤ 9223372036854775807) (hb : inR l) : Pur (EM k) 9 [memsV l] (boolV true) := by
  refine Pur.enter [3000008] Tryz.func9 rfl Tryz.ntmps9 Tryz.results9 hmE (by kernel_rfl) (by simp) (by simp) fun σ hσ => ?_
  conv => arg 5; cbv
  simp
  refine Pur.call (lift k awake_p) ?_
  simp
  refine Pur.call (lift k (Few_p l hll)) ?_
  simp
  refine ⟨fun hf => ?_, fun hf => ?_⟩
  · refine Pur.call (lift k awake_p) ?_
    simp
  have hl := fewD_of hf hb
  have hC := lift k (Complete_p l hl)
  simp at hC
  refine Pur.call hC ?_
  by_cases h0 : (fitsI l).2 = 0
  · obtain ⟨hml, hcl⟩ := cmp_short hl hf h0
    have hms := msz_few hl
    have hP := Parse4_p k (cmpL l) hcl
    rw [cmpL, prs_out (hasD l) (mapL (idx l)) l (by omega) hl.1 h0, ← cmpL, ← offs_same (hasD l) (mapL (idx l)) (by omega) hl.1, hml] at hP
    have hM := lift k (SameMembers_p l hl.1)
    have hol := offs_len h0
    have ho : offsP (hasD l) (msz (nmsD l)) l = offs l := rfl
    rw [ho] at hP
    simp at hP hM
    simp [h0]
    refine Pur.call hP ?_
    simp
    refine Pur.call hM ?_
    simp [hol]
    obtain ⟨A, hA⟩ : ∃ A : AV, A = .agg [boolV (hasD l), .ps ((if hasD l = true then mapL (idx l) else []).map byteV), .ps (l.map memV), .ps ((offs l).map intV)] := ⟨_, rfl⟩
    have hAb : ∀ n, ∀ e ∈ [A], ∀ x ∈ e.cells, Bel n x := by
      intro n e he x hx
      simp at he; subst he
      rw [hA] at hx
      simp [AV.cells] at hx
      rcases hx with rfl | rfl | rfl | rfl
      · exact .c _
      · exact bel_bytes _ _
      · exact .ps _ (by intro a ha; obtain ⟨v, _, rfl⟩ := List.mem_map.1 ha; simp)
      · exact .ps _ (by intro a ha; obtain ⟨v, _, rfl⟩ := List.mem_map.1 ha; exact .c _)
    have hll2 := hl.1.1
    refine loop_x (hmM k) (by kernel_rfl) (· + 1) 0 (fun i : Nat => [(9, intV i), (8, .lg (σ.next + 1) ((ixK (offs l) l i).map entV))]) (fun i : Nat => (σ.alloc (.arr 54 0 [A])).alloc (.log 44 (ixK (offs l) l i).length)) (fun i : Nat => i ≤ l.length) (fun i => l.length - i) (by simp) (fun i hi => ⟨by simp, (hσ.alloc_arr (hAb _)).alloc_log _ _, by simp [entV]⟩) (by simp [hA, ixK, entsK]) (by simp [ixK, entsK]) fun i hi => ?_
    simp
    refine ⟨fun h => ?_, fun h => ?_⟩
    · obtain ⟨m, hm⟩ := get_ex h
      obtain ⟨o, hof⟩ := get_ex (l := offs l) (i := i) (by omega)
      have hm1 := (hl.1.2 m (List.mem_of_getElem? hm)).2.2.2.2.2
      have hD := lift k (rDefs_p m.data (by omega))
      have hdl := defsO_len m.data
      have hwe := wK_end hm hof
      have hnl := nmsD_le hl.1 i
      have hil := ixK_len (offs l) l i hi
      simp at hD
      refine ⟨m, hm, ?_⟩
      refine Pur.call hD ?_
      obtain ⟨d, hd⟩ : ∃ d, d = defsO m.data := ⟨_, rfl⟩
      rw [← hd] at hwe hdl
      rw [← hd]
      have hw0 := wK_0 l i o d
      rw [← hwe, ← hw0]
      simp
      refine loop_x (hmM k) (by kernel_rfl) (· + 1) 0 (fun j : Nat => [(11, intV j), (8, .lg (σ.next + 1) ((wK l i o d j).map entV))]) (fun j : Nat => (σ.alloc (.arr 54 0 [A])).alloc (.log 44 (wK l i o d j).length)) (fun j : Nat => j ≤ d.length) (fun j => d.length - j) (by simp) (fun j hj => ⟨by simp, (hσ.alloc_arr (hAb _)).alloc_log _ _, by simp [entV]⟩) (by simp) (by simp) fun j hj => ?_
      have hwl := wK_len l i o d j hj
      simp
      refine ⟨fun hjl => ?_, fun hjl => ?_⟩
      · obtain ⟨x, hx⟩ := get_ex hjl
        have hws := wK_succ (l := l) (i := i) (o := o) hx
        simp [hx, hA, hof]
        have e1 : (wK l i o d (j + 1)).length = (wK l i o d j).length + 1 := by rw [hws, List.length_append]; rfl
        have e2 : List.map entV (wK l i o d j) ++ [entV ⟨x, o⟩] = List.map entV (wK l i o d (j + 1)) := by rw [hws, List.map_append]; rfl
        exact ⟨by omega, by omega, by rw [e1]; exact Below.refl _, ⟨e2, wrap_succ hjl (by omega)⟩, hjl, by omega⟩
      · obtain rfl : j = d.length := by omega
        simp
        exact ⟨wrap_succ h (by omega), h, by omega⟩
    · have hil : i = l.length := by omega
      subst hil
      have hidx : ixK (offs l) l l.length = idx l := by rw [idx, if_pos h0]
      have gok : (idx l).all entOk = true := by rw [← hidx]; exact ixK_ok hl h0
      have hh := idx_has h0
      obtain ⟨f1, f2, f3, f4⟩ := idx_fine hl
      have hDec := lift k (Decode7_p (idx l) gok (by omega) (by omega))
      have hS := lift k (Same7_p (idx l) (idx l) (by omega))
      have hmb : mapL (idx l) = mapB (idx l) := by rw [mapL, if_pos gok]
      rw [hidx]
      rw [hmb] at hA
      simp at hDec hS
      cases hb2 : hasD l with
      | false =>
        rw [hb2] at hh hA
        have hz : idx l = [] := by
          have : ¬ 0 < (idx l).length := by simpa using hh
          exact List.length_eq_zero_iff.1 (by omega)
        simp [hA, hz]
      | true =>
        rw [hb2] at hh hA
        have hz : 0 < (idx l).length := by simpa using hh
        simp [hA, hz]
        refine Pur.call hDec ?_
        simp
        refine Pur.call hS ?_
        simp
  · have hc : cmpL l = [] := by rw [cmpL, outL, if_neg h0]
    simp [h0, hc]
end Go.Proofs.YtcjdagpadnahfaaGreatDoor
