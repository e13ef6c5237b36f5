/- The laws of the index. No condition. -/
import Derived.Test.YtcjdagpadnahfaaGreatDoorB12
set_option linter.unusedVariables false
set_option linter.unusedSimpArgs false
set_option linter.unnecessarySimpa false
namespace Go.Proofs.YtcjdagpadnahfaaGreatDoor
open Go Go.AW
set_option maxRecDepth 100000
set_option maxHeartbeats 8000000

theorem preMap_len (hm : Bool) (m : W) : (preMap hm m).length ≤ 61 + m.length := by
  have := partL_len hMap m
  cases hm with
  | true => simpa [preMap] using this
  | false => simp [preMap]
theorem preTab_len (t : W) : (preTab t).length ≤ 61 + t.length := by
  have := partL_len hTab t
  unfold preTab
  split
  · simp
  · exact this
theorem outL_len {hm : Bool} {m : W} {l : List M} (hmm : m.length ≤ 2000000) (hl : fewM l) : (outL hm m l).length ≤ 1000000000 := by
  have h1 := preMap_len hm m
  have h2 := preTab_len (nmsT l)
  have h3 := nmsT_len hl
  have h4 := memsL_len (zipL l) fun p hp => (hl.2 _ (List.of_mem_zip hp).1).2.2.2.2.2
  have h5 : (zipL l).length ≤ 1000 := by have := hl.1; simp [zipL]; omega
  unfold outL
  split
  · simp only [magic, eachL, List.length_append, List.length_cons, List.length_nil]
    omega
  · simp
theorem few_of {l : List M} (h : few20 l = true) (hb : ∀ m ∈ l, m.t < 9223372036854775808 ∧ m.u < 9223372036854775808 ∧ m.g < 9223372036854775808 ∧ m.m < 9223372036854775808) : fewM l ∧ l.length ≤ 20 := by
  simp [few20] at h
  obtain ⟨h1, h2, h3⟩ := h
  refine ⟨⟨by omega, fun m hm => ?_⟩, h2⟩
  have := hb m hm
  have := h1 m hm
  exact ⟨by omega, by omega, by omega, by omega, by omega, by omega⟩
/-- Whole numbers as they are. -/
def inR (l : List M) : Prop := ∀ m ∈ l, m.t < 9223372036854775808 ∧ m.u < 9223372036854775808 ∧ m.g < 9223372036854775808 ∧ m.m < 9223372036854775808
theorem refO_len {hm : Bool} {m : W} {l : List M} : (refO hm m l).length ≤ l.length := by
  unfold refO
  split <;> simp
theorem fewD_of {l : List M} (h : few20 l = true) (hb : inR l) : fewD l := by
  refine ⟨(few_of h hb).1, ?_⟩
  simp [few20] at h
  have := namesL_len (l.map M.data)
  simp [szs, Function.comp_def] at h this
  unfold nmsD
  omega
theorem awM_few : fewD awM ∧ fewD [] ∧ fewD [⟨[], 0, 0, 0, 0, []⟩] := by
  refine ⟨⟨by simp [fewM, awM, M.lim, awO], by rw [awM_defs.1]; simp⟩, ⟨by simp [fewM], by rw [awM_defs.2.1]; simp⟩, ⟨by simp [fewM, M.lim], by rw [awM_defs.2.2.1]; simp⟩⟩
theorem awake_p : Pur E 10 [] (boolV true) := by
  obtain ⟨f1, f2, f3⟩ := awM_few
  have hE := Encode6_p awL [] (by simp [awL]) (by simp)
  rw [awO_is.1, awO_is.2] at hE
  have hC := Complete_p [] f2
  rw [aw_nil, awM_fits.2.1] at hC
  have hI := Index8_p awM f1
  rw [awM_idx, awM_fits.1] at hI
  have hA1 := At_p awM f1 148
  have hA2 := At_p awM f1 147
  rw [atV, aw_at.1] at hA1
  rw [atV, aw_at.2] at hA2
  have hI2 := Index8_p _ f3
  rw [idx, awM_fits.2.2, if_neg (by decide)] at hI2
  have hD1 := Defs_p awO (by simp [awO])
  rw [awO_defs] at hD1
  have hD2 := Defs_p [116, 101, 120, 116] (by simp)
  rw [awM_defs.2.2.2] at hD2
  have hT := Texts_p [[102], [104]] [[102], [104]] (by simp)
  have hS := Same_p magic magic (by simp [magic])
  have hS7 := Same7_p [⟨[102], 148⟩, ⟨[104], 148⟩] [⟨[102], 148⟩, ⟨[104], 148⟩] (by simp)
  simp [awL, awM] at hE hC hI hA1 hA2 hI2 hD1 hD2 hT hS hS7
  have hMg := Magic_p
  simp at hMg
  obtain ⟨O, hO⟩ : ∃ O, O = awO := ⟨_, rfl⟩
  rw [← hO] at hE hI hA1 hA2 hD1
  refine Pur.enter [1000023, 1000059] Tryz.func10 rfl Tryz.ntmps10 Tryz.results10 hmE (by kernel_rfl) (by simp) (by simp) fun σ hσ => ?_
  conv => arg 5; cbv
  simp
  refine Pur.call hE ?_
  simp
  refine Pur.call hC ?_
  simp
  refine Pur.call hI ?_
  simp
  refine Pur.call hA1 ?_
  simp
  refine Pur.call hA2 ?_
  simp
  refine Pur.call hI2 ?_
  simp
  first | refine Pur.call hD1 ?_ | refine Pur.d hD1 ?_
  simp
  first | refine Pur.call hT ?_ | refine Pur.d hT ?_
  simp
  first | refine Pur.call hD2 ?_ | refine Pur.d hD2 ?_
  simp
  first | refine Pur.call hMg ?_ | refine Pur.d hMg ?_
  simp
  first | refine Pur.call hS ?_ | refine Pur.d hS ?_
  simp
  first | refine Pur.call hS7 ?_ | refine Pur.d hS7 ?_
  simp
theorem szp_lt (l : List M) : ∀ (i j : Nat), i < j → j ≤ l.length → szp (l.take i) < szp (l.take j) := by
  intro i j hij hj
  induction j with
  | zero => omega
  | succ j ih =>
    obtain ⟨m, hm⟩ := get_ex (l := l) (i := j) (by omega)
    have hs := szp_take hm
    have : 60 ≤ psz m.data.length := by unfold psz; omega
    rcases Nat.lt_succ_iff_lt_or_eq.1 hij with h | rfl
    · have := ih h (by omega)
      omega
    · omega
theorem offs_get {l : List M} {i : Nat} {x : Int} (h : (offs l)[i]? = some x) : i < l.length ∧ x = ((baseP (hasD l) (msz (nmsD l)) l + szp (l.take i) : Nat) : Int) ∧ (fitsI l).2 = 0 := by
  rw [offs, offsP] at h
  split at h
  · rename_i h0
    have hi := (List.getElem?_eq_some_iff.1 h).1
    simp at hi
    have e : (offP (baseP (hasD l) (msz (nmsD l)) l) l l.length)[i]? = some ((baseP (hasD l) (msz (nmsD l)) l + szp (l.take i) : Nat) : Int) := by simp [offP, hi]
    rw [e] at h
    cases h
    exact ⟨hi, rfl, h0⟩
  · simp at h
theorem offs_inj {l : List M} {i j : Nat} {x : Int} (h1 : (offs l)[i]? = some x) (h2 : (offs l)[j]? = some x) : i = j := by
  obtain ⟨a1, a2, _⟩ := offs_get h1
  obtain ⟨b1, b2, _⟩ := offs_get h2
  have l1 := szp_lt l i j
  have l2 := szp_lt l j i
  rcases Nat.lt_trichotomy i j with h | h | h
  · have := l1 h (by omega); omega
  · exact h
  · have := l2 h (by omega); omega
theorem atI_some {l : List M} {v : Int} {n : Nat} (h : atI l v = some n) : (offs l)[n]? = some v := by
  unfold atI at h
  rw [List.findIdx?_eq_some_iff_getElem] at h
  obtain ⟨h1, h2, _⟩ := h
  rw [List.getElem?_eq_getElem h1]
  simpa using h2
theorem atI_none {l : List M} {v : Int} (h : atI l v = none) (i : Nat) : (offs l)[i]? ≠ some v := by
  intro he
  unfold atI at h
  rw [List.findIdx?_eq_none_iff] at h
  have := h v (List.mem_of_getElem? he)
  simp at this
theorem Matches_p (l : List M) (b : W) (v : Int) (hll : l.length ≤ 9223372036854775807) (hbl : b.length ≤ 9223372036854775807) (hb : inR l) : Pur E 3 [memsV l, bytes b, intV v] (boolV true) := by
  refine Pur.enter [] Tryz.func3 rfl Tryz.ntmps3 Tryz.results3 hmE (by kernel_rfl) (by simp) (by simp) fun σ hσ => ?_
  conv => arg 5; cbv
  simp
  refine Pur.call awake_p ?_
  simp
  refine Pur.call (Few_p l hll) ?_
  simp
  refine ⟨fun hf => ?_, fun hf => ⟨fun hbb => ?_, fun hbb => ?_⟩⟩
  · refine Pur.call awake_p ?_
    simp
  · refine Pur.call awake_p ?_
    simp
  have hl := fewD_of hf hb
  have h1 := rComplete_p l hl
  have h2 := Complete_p l hl
  have h3 := Index8_p l hl
  have h4 := At_p l hl v
  have h5 := Defs_p b (by omega)
  have h6 := rDefs_p b (by omega)
  have hcl : (cmpL l).length ≤ 9223372036854775807 := by
    obtain ⟨_, _, f3, f4⟩ := idx_fine hl
    have := outL_len (hm := hasD l) (m := mapL (idx l)) (l := l) (by unfold mapL; split; exact f4; simp) hl.1
    unfold cmpL
    omega
  simp [refC] at h1 h2 h3 h4 h5 h6
  refine Pur.call h1 ?_
  simp
  refine Pur.call h2 ?_
  simp
  refine Pur.call h3 ?_
  simp
  refine Pur.call h4 ?_
  have hol := offs_len_le (l := l)
  have hll := hl.1.1
  have hS := Same_p (cmpL l) (cmpL l) hcl
  have hS7 := Same7_p (idx l) (idx l) (by have := (idx_fine hl).1; omega)
  have hT := Texts_p (defsO b) (defsO b) (by have := defsO_len b; omega)
  simp at hS hS7 hT
  cases ha : atI l v with
  | none =>
    have hno := atI_none ha
    simp [atV, ha]
    refine loop_n hmE (by kernel_rfl) (offs l).length (fun i => [(18, intV i)]) (fun i => i ≤ (offs l).length) (by simp) hσ (by simp) (by simp) (by simp) fun i hi => ?_
    simp
    refine ⟨fun h => ?_, fun h => ?_⟩
    · obtain ⟨x, hx⟩ := get_ex h
      refine ⟨x, hx, fun e => ?_, fun e => ⟨wrap_succ h (by omega), h, by omega⟩⟩
      exact absurd hx (by rw [e]; exact hno i)
    · refine Pur.call hS ?_
      simp
      first | refine Pur.call hS7 ?_ | refine Pur.d hS7 ?_
      simp
      first | refine Pur.call h5 ?_ | refine Pur.d h5 ?_
      simp
      first | refine Pur.call h6 ?_ | refine Pur.d h6 ?_
      simp
      first | refine Pur.call hT ?_ | refine Pur.d hT ?_
      simp
  | some n =>
    have hn := atI_some ha
    have hnl := (List.getElem?_eq_some_iff.1 hn).1
    simp [atV, ha]
    refine loop_n hmE (by kernel_rfl) (offs l).length (fun i => [(18, intV i), (17, boolV (decide (n < i)))]) (fun i => i ≤ (offs l).length) (by simp) hσ (by simp) (by simp) (by simp) fun i hi => ?_
    simp
    refine ⟨fun h => ?_, fun h => ?_⟩
    · obtain ⟨x, hx⟩ := get_ex h
      refine ⟨x, hx, fun e => ?_, fun e => ?_⟩
      · have : i = n := offs_inj (x := v) (by rw [hx, e]) hn
        subst this
        simp
        exact ⟨wrap_succ h (by omega), h, by omega⟩
      · have : i ≠ n := by rintro rfl; rw [hn] at hx; cases hx; exact e rfl
        exact ⟨⟨by omega, wrap_succ h (by omega)⟩, h, by omega⟩
    · refine Pur.call hS ?_
      simp
      first | refine Pur.call hS7 ?_ | refine Pur.d hS7 ?_
      simp
      have hni : n < i := by omega
      simp only [hni, show ¬ i ≤ n by omega, true_implies, false_implies, and_true]
      first | refine Pur.call h5 ?_ | refine Pur.d h5 ?_
      simp
      first | refine Pur.call h6 ?_ | refine Pur.d h6 ?_
      simp
      first | refine Pur.call hT ?_ | refine Pur.d hT ?_
      simp
end Go.Proofs.YtcjdagpadnahfaaGreatDoor
