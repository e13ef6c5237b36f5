/- Archives written and read back: the laws. No condition. -/
import Derived.Test.YtcjdagpadnahfaaGreatDoorP9
set_option linter.unusedVariables false
set_option linter.unusedSimpArgs false
set_option linter.unnecessarySimpa false
namespace Go.Proofs.YtcjdagpadnahfaaGreatDoor
open Go Go.AW
set_option maxRecDepth 100000
set_option maxHeartbeats 8000000

def l25 : List M := [⟨[97, 46, 111], 0, 0, 0, 0, [120]⟩, ⟨[97, 45, 118, 101, 114, 121, 45, 108, 111, 110, 103, 45, 110, 97, 109, 101, 46, 111], 0, 0, 0, 0, []⟩]
def l15 : List M := [⟨[97, 47, 98], 0, 0, 0, 0, []⟩]
def lb5 : List M := [⟨[97], 0, 0, 0, 0, []⟩, ⟨[98], 0, 0, 0, -1, []⟩]
theorem preMap_len5 (hm : Bool) (m : W) : (preMap hm m).length ≤ 61 + m.length := by
  have := partL_len hMap m
  cases hm with
  | true => simpa [preMap] using this
  | false => simp [preMap]
theorem preTab_len5 (t : W) : (preTab t).length ≤ 61 + t.length := by
  have := partL_len hTab t
  unfold preTab
  split
  · simp
  · exact this
theorem outL_len5 {hm : Bool} {m : W} {l : List M} (hmm : m.length ≤ 2000000) (hl : fewM l) : (outL hm m l).length ≤ 1000000000 := by
  have h1 := preMap_len5 hm m
  have h2 := preTab_len5 (nmsT l)
  have h3 := nmsT_len hl
  have h4 := memsL_len (zipL l) fun p hp => (hl.2 _ (List.of_mem_zip hp).1).2.2.2.2.2
  have h5 : (zipL l).length ≤ 1000 := by have := hl.1; simp [zipL]; omega
  unfold outL
  split
  · simp only [magic, eachL, List.length_append, List.length_cons, List.length_nil]
    omega
  · simp
theorem l2_few5 : fewM l25 := by simp [fewM, l25, M.lim]
theorem l1_few5 : fewM l15 := by simp [fewM, l15, M.lim]
theorem lb_few5 : fewM lb5 := by simp [fewM, lb5, M.lim]
theorem l0_few5 : fewM [] := by simp [fewM]
theorem fit05 (n : W) (d : W) (hd : d.length ≤ 2000000) : fitM ⟨n, 0, 0, 0, 0, d⟩ = true := by
  obtain ⟨z1, z2, z3⟩ := zero_ok
  have := size_ok d.length hd
  simp [fitM, this]
  simp [fldOk, z1, z2, z3]
theorem l2_fits5 : fitsI l25 = (-1, 0) := by
  refine fits_none fun m hm => ?_
  simp [l25] at hm
  rcases hm with rfl | rfl
  · have h1 := fit05 [97, 46, 111] [120] (by simp)
    have h2 : validN [97, 46, 111] = true := by decide
    simp [badE, h1, h2]
  · have h1 := fit05 [97, 45, 118, 101, 114, 121, 45, 108, 111, 110, 103, 45, 110, 97, 109, 101, 46, 111] [] (by simp)
    have h2 : validN [97, 45, 118, 101, 114, 121, 45, 108, 111, 110, 103, 45, 110, 97, 109, 101, 46, 111] = true := by decide
    simp [badE, h1, h2]
theorem l1_fits5 : fitsI l15 = (0, 6) := by
  have h2 : validN [97, 47, 98] = false := by decide
  simp [fitsI, l15, badE, h2]
theorem lb_fits5 : fitsI lb5 = (1, 9) := by
  have h1 := fit05 [97] [] (by simp)
  have h2 : validN [97] = true := by decide
  have h3 : validN [98] = true := by decide
  have h4 : fitM ⟨[98], 0, 0, 0, -1, []⟩ = false := by
    have : fmtE (-1) 8 8 = 9 := by rw [fmtE, if_neg (by omega), if_pos (by omega)]
    simp [fitM, fldOk, this]
  simp [fitsI, lb5, badE, h1, h2, h3, h4]
theorem l2_offs5 : offsP true 1 l25 = [150, 212] := by
  have hT : nmsT l25 = [97, 45, 118, 101, 114, 121, 45, 108, 111, 110, 103, 45, 110, 97, 109, 101, 46, 111, 47, 10] := by
    have e : (l25.map M.name).all validN = true := by decide
    rw [nmsT, bldT, if_pos e, bld_fst]
    decide
  have hb : baseP true 1 l25 = 150 := by simp [baseP, hT, psz]
  rw [offsP, l2_fits5, if_pos rfl, hb]
  simp [offP, psz, l25, szp, List.range_succ]
theorem awake_p5 : Pur E 23 [] (boolV true) := by
  obtain ⟨B, hB⟩ : ∃ B, B = outL true [109] l25 := ⟨_, rfl⟩
  obtain ⟨O, hO⟩ : ∃ O, O = refO true [109] l25 := ⟨_, rfl⟩
  have hBl : B.length ≤ 9223372036854775807 := by
    have := outL_len5 (hm := true) (m := [109]) (by simp) l2_few5
    rw [← hB] at this
    omega
  have w0 : Pur E 24 [boolV false, bytes [], memsV []] (.tup [bytes magic, intV 0]) := by
    have h := Write_p false [] [] (by simp) l0_few5
    have e : outL false [] [] = magic := rfl
    unfold outV at h
    rw [e] at h
    exact h
  have w2 : Pur E 24 [boolV true, bytes [109], memsV l25] (.tup [bytes B, intV 0]) := by
    have h := Write_p true [109] l25 (by simp) l2_few5
    unfold outV at h
    rw [← hB, l2_fits5] at h
    exact h
  have r2 : Pur E 34 [boolV true, bytes [109], memsV l25] (.tup [bytes B, ints O, intV 0]) := by
    have h := rWrite_p true [109] l25 (by simp) l2_few5
    unfold refV at h
    rw [← hB, ← hO, l2_fits5] at h
    exact h
  have w1 : Pur E 24 [boolV false, bytes [], memsV l15] (.tup [bytes [], intV 6]) := by
    have h := Write_p false [] l15 (by simp) l1_few5
    have e : outL false [] l15 = [] := by rw [outL, l1_fits5, if_neg (by simp)]
    unfold outV at h
    rw [e, l1_fits5] at h
    exact h
  have f1 : Pur E 36 [memsV lb5] (.tup [intV 1, intV 9]) := by
    have h := AFits_p lb5 lb_few5
    unfold pairV at h
    rw [lb_fits5] at h
    exact h
  have o2 : Pur E 28 [boolV true, intV 1, memsV l25] (ints [150, 212]) := by
    have h := Offsets_p true 1 l25 (by omega) l2_few5
    rw [l2_offs5] at h
    exact h
  have n2 := Numbers_p [150, 212] [150, 212] (by simp)
  have s0 := Same_p magic magic (by simp [magic])
  have s2 := Same_p B B hBl
  refine Pur.enter [1000017, 1000023, 1000030] Tryz.func23 rfl Tryz.ntmps23 Tryz.results23 hmE (by kernel_rfl) (by simp) (by simp) fun σ hσ => ?_
  conv => arg 5; cbv
  simp
  refine Pur.call w0 ?_
  simp
  refine Pur.call w2 ?_
  simp
  refine Pur.call r2 ?_
  simp
  refine Pur.call w1 ?_
  simp
  refine Pur.call f1 ?_
  simp
  refine Pur.call Magic_p ?_
  simp
  refine Pur.call s0 ?_
  simp
  refine Pur.call s2 ?_
  simp
  refine Pur.call o2 ?_
  simp
  refine Pur.call n2 ?_
  simp
theorem few_of5 {l : List M} (h : few20 l = true) (hb : ∀ m ∈ l, m.t < 9223372036854775808 ∧ m.u < 9223372036854775808 ∧ m.g < 9223372036854775808 ∧ m.m < 9223372036854775808) : fewM l ∧ l.length ≤ 20 := by
  simp [few20] at h
  obtain ⟨h1, h2, h3⟩ := h
  refine ⟨⟨by omega, fun m hm => ?_⟩, h2⟩
  have := hb m hm
  have := h1 m hm
  exact ⟨by omega, by omega, by omega, by omega, by omega, by omega⟩
/-- Whole numbers as they are. -/
def inR5 (l : List M) : Prop := ∀ m ∈ l, m.t < 9223372036854775808 ∧ m.u < 9223372036854775808 ∧ m.g < 9223372036854775808 ∧ m.m < 9223372036854775808
theorem refO_len5 {hm : Bool} {m : W} {l : List M} : (refO hm m l).length ≤ l.length := by
  unfold refO
  split <;> simp
theorem SameMember5_p (x : M) (hx : x.data.length ≤ 1000000000) : Pur E 47 [memV x, memV x] (boolV true) := by
  have hS := Same_p x.data x.data (by omega)
  simp at hS
  refine Pur.enter [] Tryz.func47 rfl Tryz.ntmps47 Tryz.results47 hmE (by kernel_rfl) (by simp) (by simp) fun σ hσ => ?_
  conv => arg 5; cbv
  simp
  refine Pur.call hS ?_
  simp
theorem SameMembers5_p (a : List M) (ha : fewM a) : Pur E 22 [memsV a, memsV a] (boolV true) := by
  refine Pur.enter [6000047] Tryz.func22 rfl Tryz.ntmps22 Tryz.results22 hmE (by kernel_rfl) (by simp) (by simp) fun σ hσ => ?_
  conv => arg 5; cbv
  simp
  refine loop_n hmE (by kernel_rfl) a.length (fun i => [(5, intV i)]) (fun i => i ≤ a.length) (by simp) hσ (by simp) (by simp) (by simp) fun i hi => ?_
  simp
  intro h
  have hal := ha.1
  obtain ⟨x, hx⟩ := get_ex h
  have hxl := (ha.2 x (List.mem_of_getElem? hx)).2.2.2.2.2
  have hs := SameMember5_p x (by omega)
  simp at hs
  refine ⟨x, hx, x, hx, ?_⟩
  refine Pur.q hs ?_
  simp
  exact ⟨wrap_succ h (by omega), h, by omega⟩
theorem memsL_len5 (z : List (M × W)) (hz : ∀ p ∈ z, p.1.data.length ≤ 1000) : (memsL z).length ≤ 1061 * z.length := by
  induction z with
  | nil => simp [memsL]
  | cons p z ih =>
    have h1 := hz p (by simp)
    have h2 := ih fun p hp => hz p (by simp [hp])
    have h3 := partL_len (hdrM p.1 p.2) p.1.data
    simp [memsL] at h2 ⊢
    omega
theorem bld_len5 (l : List W) (hl : ∀ n ∈ l, n.length ≤ 300) : (bld l).1.length ≤ 302 * l.length := by
  induction l using rev_ind with
  | h0 => simp [bld]
  | h1 l n ih =>
    have h1 := ih fun n hn => hl n (by simp [hn])
    have h2 := hl n (by simp)
    rw [bld_snoc]
    unfold bldS
    split <;> simp <;> omega
/-- Few members make a short archive. -/
theorem out_short {hm : Bool} {m : W} {l : List M} (hmm : m.length ≤ 1000) (hf : few20 l = true) : (outL hm m l).length ≤ 800000 := by
  simp only [few20, Bool.and_eq_true, List.all_eq_true, decide_eq_true_eq] at hf
  obtain ⟨h1, h2, h3⟩ := hf
  have p1 := preMap_len5 hm m
  have p2 := preTab_len5 (nmsT l)
  have p3 : (nmsT l).length ≤ 302 * 20 := by
    have := bld_len5 (l.map M.name) fun n hn => by obtain ⟨m, hm, rfl⟩ := List.mem_map.1 hn; exact (h1 m hm).1
    simp at this
    unfold nmsT bldT
    split
    · omega
    · simp
  have p4 := memsL_len5 (zipL l) fun p hp => (h1 _ (List.of_mem_zip hp).1).2
  have p5 : (zipL l).length ≤ 20 := by simp [zipL]; omega
  unfold outL
  split
  · simp only [magic, eachL, List.length_append, List.length_cons, List.length_nil]
    omega
  · simp
theorem Round_p (k : Int) (hm : Bool) (m : W) (l : List M) (hll : l.length ≤ 9223372036854775807) (hb : inR5 l) : Pur (EM k) 7 [boolV hm, bytes m, memsV l] (boolV true) := by
  refine Pur.enter [] Tryz.func7 rfl Tryz.ntmps7 Tryz.results7 hmE (by kernel_rfl) (by simp) (by simp) fun σ hσ => ?_
  conv => arg 5; cbv
  simp
  refine Pur.call (lift k awake_p5) ?_
  simp
  refine Pur.call (lift k (Few_p l hll)) ?_
  simp
  refine ⟨fun hf => ?_, fun hf => ⟨fun hmm => ?_, fun hmm => ?_⟩⟩
  · refine Pur.call (lift k awake_p5) ?_
    simp
  · refine Pur.call (lift k awake_p5) ?_
    simp
  · obtain ⟨hl, _⟩ := few_of5 hf hb
    have hm2 : m.length ≤ 2000000 := by omega
    refine Pur.call (lift k (Write_p hm m l hm2 hl)) ?_
    simp
    refine ⟨fun h0 => ?_, fun h0 => ?_⟩
    · refine Pur.call (lift k (rAFits_p l hl)) ?_
      simp
      simp [outL, h0]
    · have hP := Parse4_p k (outL hm m l) (out_short (by omega) hf)
      rw [prs_out hm m l hm2 hl (by omega)] at hP
      have hM := lift k (SameMembers5_p l hl)
      have hO := lift k (Offsets_p hm m.length l hm2 hl)
      rw [offs_same hm m hm2 hl] at hO
      have hrl := refO_len5 (hm := hm) (m := m) (l := l)
      have hll2 := hl.1
      have hN := lift k (Numbers_p (refO hm m l) (refO hm m l) (by omega))
      have hmp : (if hm = true then m else []).length ≤ m.length := by cases hm <;> simp
      have hW := lift k (Write_p hm (if hm = true then m else []) l (by omega) hl)
      have hout : outL hm (if hm = true then m else []) l = outL hm m l := by cases hm <;> simp [outL, eachL, preMap]
      have hol := outL_len5 (hm := hm) hm2 hl
      have hZ := lift k (Same_p (outL hm m l) (outL hm m l) (by omega))
      have hS := lift k (Same_p m m (by omega))
      rw [outV, hout] at hW
      simp [h0] at hP hM hO hN hW hZ hS
      generalize outL hm m l = B at *
      generalize refO hm m l = O at *
      refine Pur.call hP ?_
      cases hm with
      | true =>
        simp at hW hO ⊢
        refine Pur.d hS ?_
        simp
        refine Pur.d hM ?_
        simp
        refine Pur.d hO ?_
        simp
        refine Pur.d hN ?_
        simp
        refine Pur.call hW ?_
        simp
        first | refine Pur.d hZ ?_ | refine Pur.call hZ ?_
        simp
      | false =>
        simp at hW hO ⊢
        refine Pur.d hM ?_
        simp
        refine Pur.d hO ?_
        simp
        refine Pur.d hN ?_
        simp
        refine Pur.call hW ?_
        simp
        first | refine Pur.d hZ ?_ | refine Pur.call hZ ?_
        simp
end Go.Proofs.YtcjdagpadnahfaaGreatDoor
