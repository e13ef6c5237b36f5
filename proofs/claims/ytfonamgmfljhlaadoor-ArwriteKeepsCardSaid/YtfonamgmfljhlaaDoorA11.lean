/- The laws. No condition. -/
import Derived.Test.YtfonamgmfljhlaaDoorA10
set_option linter.unusedVariables false
set_option linter.unusedSimpArgs false
set_option linter.unnecessarySimpa false
namespace Go.Proofs.YtfonamgmfljhlaaDoor
open Go Go.AW
set_option maxRecDepth 100000
set_option maxHeartbeats 8000000

def l2 : List M := [⟨[97, 46, 111], 0, 0, 0, 0, [120]⟩, ⟨[97, 45, 118, 101, 114, 121, 45, 108, 111, 110, 103, 45, 110, 97, 109, 101, 46, 111], 0, 0, 0, 0, []⟩]
def l1 : List M := [⟨[97, 47, 98], 0, 0, 0, 0, []⟩]
def lb : List M := [⟨[97], 0, 0, 0, 0, []⟩, ⟨[98], 0, 0, 0, -1, []⟩]
theorem preMap_len (hm : Bool) (m : W) : (preMap hm m).length ≤ 61 + m.length := by
  have := partL_len hMap m
  cases hm with
  | true => simpa [preMap] using this
  | false => simp [preMap]
theorem preTab_len (t : W) : (preTab t).length ≤ 61 + t.length := by
  have := partL_len hTab t
  unfold preTab
  split
  · simp
  · exact this
theorem outL_len {hm : Bool} {m : W} {l : List M} (hmm : m.length ≤ 2000000) (hl : fewM l) : (outL hm m l).length ≤ 1000000000 := by
  have h1 := preMap_len hm m
  have h2 := preTab_len (nmsT l)
  have h3 := nmsT_len hl
  have h4 := memsL_len (zipL l) fun p hp => (hl.2 _ (List.of_mem_zip hp).1).2.2.2.2.2
  have h5 : (zipL l).length ≤ 1000 := by have := hl.1; simp [zipL]; omega
  unfold outL
  split
  · simp only [magic, eachL, List.length_append, List.length_cons, List.length_nil]
    omega
  · simp
theorem l2_few : fewM l2 := by simp [fewM, l2, M.lim]
theorem l1_few : fewM l1 := by simp [fewM, l1, M.lim]
theorem lb_few : fewM lb := by simp [fewM, lb, M.lim]
theorem l0_few : fewM [] := by simp [fewM]
theorem fit0 (n : W) (d : W) (hd : d.length ≤ 2000000) : fitM ⟨n, 0, 0, 0, 0, d⟩ = true := by
  obtain ⟨z1, z2, z3⟩ := zero_ok
  have := size_ok d.length hd
  simp [fitM, this]
  simp [fldOk, z1, z2, z3]
theorem l2_fits : fitsI l2 = (-1, 0) := by
  refine fits_none fun m hm => ?_
  simp [l2] at hm
  rcases hm with rfl | rfl
  · have h1 := fit0 [97, 46, 111] [120] (by simp)
    have h2 : validN [97, 46, 111] = true := by decide
    simp [badE, h1, h2]
  · have h1 := fit0 [97, 45, 118, 101, 114, 121, 45, 108, 111, 110, 103, 45, 110, 97, 109, 101, 46, 111] [] (by simp)
    have h2 : validN [97, 45, 118, 101, 114, 121, 45, 108, 111, 110, 103, 45, 110, 97, 109, 101, 46, 111] = true := by decide
    simp [badE, h1, h2]
theorem l1_fits : fitsI l1 = (0, 6) := by
  have h2 : validN [97, 47, 98] = false := by decide
  simp [fitsI, l1, badE, h2]
theorem lb_fits : fitsI lb = (1, 9) := by
  have h1 := fit0 [97] [] (by simp)
  have h2 : validN [97] = true := by decide
  have h3 : validN [98] = true := by decide
  have h4 : fitM ⟨[98], 0, 0, 0, -1, []⟩ = false := by
    have : fmtE (-1) 8 8 = 9 := by rw [fmtE, if_neg (by omega), if_pos (by omega)]
    simp [fitM, fldOk, this]
  simp [fitsI, lb, badE, h1, h2, h3, h4]
theorem l2_offs : offsP true 1 l2 = [150, 212] := by
  have hT : nmsT l2 = [97, 45, 118, 101, 114, 121, 45, 108, 111, 110, 103, 45, 110, 97, 109, 101, 46, 111, 47, 10] := by
    have e : (l2.map M.name).all validN = true := by decide
    rw [nmsT, bldT, if_pos e, bld_fst]
    decide
  have hb : baseP true 1 l2 = 150 := by simp [baseP, hT, psz]
  rw [offsP, l2_fits, if_pos rfl, hb]
  simp [offP, psz, l2, szp, List.range_succ]
theorem awake_p : Pur E 4 [] (boolV true) := by
  obtain ⟨B, hB⟩ : ∃ B, B = outL true [109] l2 := ⟨_, rfl⟩
  obtain ⟨O, hO⟩ : ∃ O, O = refO true [109] l2 := ⟨_, rfl⟩
  have hBl : B.length ≤ 9223372036854775807 := by
    have := outL_len (hm := true) (m := [109]) (by simp) l2_few
    rw [← hB] at this
    omega
  have w0 : Pur E 7 [boolV false, bytes [], memsV []] (.tup [bytes magic, intV 0]) := by
    have h := Write_p false [] [] (by simp) l0_few
    have e : outL false [] [] = magic := rfl
    unfold outV at h
    rw [e] at h
    exact h
  have w2 : Pur E 7 [boolV true, bytes [109], memsV l2] (.tup [bytes B, intV 0]) := by
    have h := Write_p true [109] l2 (by simp) l2_few
    unfold outV at h
    rw [← hB, l2_fits] at h
    exact h
  have r2 : Pur E 8 [boolV true, bytes [109], memsV l2] (.tup [bytes B, ints O, intV 0]) := by
    have h := rWrite_p true [109] l2 (by simp) l2_few
    unfold refV at h
    rw [← hB, ← hO, l2_fits] at h
    exact h
  have w1 : Pur E 7 [boolV false, bytes [], memsV l1] (.tup [bytes [], intV 6]) := by
    have h := Write_p false [] l1 (by simp) l1_few
    have e : outL false [] l1 = [] := by rw [outL, l1_fits, if_neg (by simp)]
    unfold outV at h
    rw [e, l1_fits] at h
    exact h
  have f1 : Pur E 11 [memsV lb] (.tup [intV 1, intV 9]) := by
    have h := AFits_p lb lb_few
    unfold pairV at h
    rw [lb_fits] at h
    exact h
  have o2 : Pur E 14 [boolV true, intV 1, memsV l2] (ints [150, 212]) := by
    have h := Offsets_p true 1 l2 (by omega) l2_few
    rw [l2_offs] at h
    exact h
  have n2 := Numbers_p [150, 212] [150, 212] (by simp)
  have s0 := Same_p magic magic (by simp [magic])
  have s2 := Same_p B B hBl
  refine Pur.enter [1000017, 1000023, 1000030] Tryd.func4 rfl Tryd.ntmps4 Tryd.results4 hmE (by kernel_rfl) (by simp) (by simp) fun σ hσ => ?_
  conv => arg 5; cbv
  simp
  refine Pur.call w0 ?_
  simp
  refine Pur.call w2 ?_
  simp
  refine Pur.call r2 ?_
  simp
  refine Pur.call w1 ?_
  simp
  refine Pur.call f1 ?_
  simp
  refine Pur.call Magic_p ?_
  simp
  refine Pur.call s0 ?_
  simp
  refine Pur.call s2 ?_
  simp
  refine Pur.call o2 ?_
  simp
  refine Pur.call n2 ?_
  simp
theorem few_of {l : List M} (h : few20 l = true) (hb : ∀ m ∈ l, m.t < 9223372036854775808 ∧ m.u < 9223372036854775808 ∧ m.g < 9223372036854775808 ∧ m.m < 9223372036854775808) : fewM l ∧ l.length ≤ 20 := by
  simp [few20] at h
  obtain ⟨h1, h2, h3⟩ := h
  refine ⟨⟨by omega, fun m hm => ?_⟩, h2⟩
  have := hb m hm
  have := h1 m hm
  exact ⟨by omega, by omega, by omega, by omega, by omega, by omega⟩
/-- Whole numbers as they are. -/
def inR (l : List M) : Prop := ∀ m ∈ l, m.t < 9223372036854775808 ∧ m.u < 9223372036854775808 ∧ m.g < 9223372036854775808 ∧ m.m < 9223372036854775808
theorem refO_len {hm : Bool} {m : W} {l : List M} : (refO hm m l).length ≤ l.length := by
  unfold refO
  split <;> simp
end Go.Proofs.YtfonamgmfljhlaaDoor
