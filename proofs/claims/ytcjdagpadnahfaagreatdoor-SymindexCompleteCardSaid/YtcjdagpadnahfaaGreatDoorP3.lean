/- Headers read by the program. No condition. -/
import Derived.Test.YtcjdagpadnahfaaGreatDoorP2
set_option linter.unusedVariables false
set_option linter.unusedSimpArgs false
set_option linter.unnecessarySimpa false
namespace Go.Proofs.YtcjdagpadnahfaaGreatDoor
open Go Go.AW
set_option maxRecDepth 100000
set_option maxHeartbeats 8000000

def hdecV (b : W) : AV := .tup [hdrV (decH b), intV (decE b)]
attribute [simp] hdecV
/-- The header while its fields are read. -/
def hU (b : W) (i : Nat) : H := ⟨dName b, if 0 < i then fldI b 0 else 0, if 1 < i then fldI b 1 else 0, if 2 < i then fldI b 2 else 0, if 3 < i then fldI b 3 else 0, if 4 < i then fldI b 4 else 0⟩
theorem dec_bad {b : W} (h : decE b ≠ 0) : decH b = zeroH := by rw [decH, if_neg h]
theorem dec_2 {b : W} (h : b.length < 60) : decE b = 2 := by rw [decE, if_pos h]
theorem dec_4 {b : W} (h : ¬ b.length < 60) (h1 : cutP b 58 2 ≠ [96, 10]) : decE b = 4 := by rw [decE, if_neg h, if_pos h1]
theorem dec_6 {b : W} (h : ¬ b.length < 60) (h1 : cutP b 58 2 = [96, 10]) (h2 : fitsN (dName b) = false) : decE b = 6 := by rw [decE, if_neg h, if_neg (by simp [h1]), if_pos h2]
theorem dec_3 {b : W} (h : ¬ b.length < 60) (h1 : cutP b 58 2 = [96, 10]) (h2 : fitsN (dName b) = true) (h3 : none ∈ dFld b) : decE b = 3 := by rw [decE, if_neg h, if_neg (by simp [h1]), if_neg (by simp [h2]), if_pos h3]
theorem dec_0 {b : W} (h : ¬ b.length < 60) (h1 : cutP b 58 2 = [96, 10]) (h2 : fitsN (dName b) = true) (h3 : none ∉ dFld b) : decE b = 0 ∧ decH b = hU b 5 := by
  have : decE b = 0 := by rw [decE, if_neg h, if_neg (by simp [h1]), if_neg (by simp [h2]), if_neg h3]
  exact ⟨this, by rw [decH, if_pos this]; rfl⟩
theorem prs_cases {l : W} {b : Int} (hb : b = 8 ∨ b = 10) (hl : 1 ≤ l.length ∧ l.length ≤ 18) : (prsE l b = 0 ∧ fldN l b false = some (prsN l b)) ∨ (prsE l b = 3 ∧ fldN l b false = none) := by
  by_cases h : okf b.toNat l
  · obtain ⟨h1, _⟩ := prs0 (by omega) h
    exact .inl ⟨h1, by simp [fldN, h1]⟩
  · obtain ⟨h1, _⟩ := prs3 (by omega) h
    exact .inr ⟨h1, by simp [fldN, h1]⟩
theorem take_none {b : W} {i : Nat} {v : Nat} (h : none ∉ (dFld b).take i) (hv : (dFld b)[i]? = some (some v)) : none ∉ (dFld b).take (i + 1) := by
  rw [List.take_add_one, hv]
  simp
  simpa using h
theorem HDecode_p (b : W) (hb : b.length ≤ 1000000000) : Pur E 114 [bytes b] (hdecV b) := by
  refine Pur.enter [] Tryz.func114 rfl Tryz.ntmps114 Tryz.results114 hmE (by kernel_rfl) (by simp) (by simp) fun σ hσ => ?_
  conv => arg 5; cbv
  simp
  refine ⟨fun h => ?_, fun h => ?_⟩
  · have := dec_2 (b := b) (by omega)
    simp [this, dec_bad (b := b) (by omega), zeroH]
  have hl60 : ¬ b.length < 60 := by omega
  have isB : ∀ i j, ∀ a ∈ List.drop i (List.take j (List.map byteV b)), (match a with | AV.c (Value.int IntKind.u8 n) => true | x => false) = true := by
    intro i j a ha
    obtain ⟨x, _, rfl⟩ := List.mem_map.1 (List.mem_of_mem_take (List.mem_of_mem_drop ha))
    rfl
  have c58 : List.drop 58 (List.take 60 b) = cutP b 58 2 := by rw [cutP, List.drop_take]
  rw [c58]
  refine ⟨h, isB 58 60, fun h1 => ?_, fun h1 => ⟨by omega, ?_⟩⟩
  · have := dec_4 hl60 h1
    simp [this, dec_bad (b := b) (by omega), zeroH]
  refine Pur.call (TrimRight_p (b.take 16) (by simp; omega)) ?_
  have hn : rt (b.take 16) = dName b := rfl
  have hnl : (dName b).length ≤ 16 := by have := rt_len (b.take 16); rw [hn] at this; simp at this; omega
  simp [hn]
  refine Pur.call (fits_p (dName b) (by omega)) ?_
  simp
  refine ⟨fun h2 => ?_, fun h2 => ?_⟩
  · have := dec_6 hl60 h1 h2
    simp [this, dec_bad (b := b) (by omega), zeroH]
  refine Pur.call fields_p ?_
  simp
  have u0 : hU b 0 = ⟨dName b, 0, 0, 0, 0, 0⟩ := by simp [hU]
  have u1 : hU b 1 = ⟨dName b, fldI b 0, 0, 0, 0, 0⟩ := by simp [hU]
  have u2 : hU b 2 = ⟨dName b, fldI b 0, fldI b 1, 0, 0, 0⟩ := by simp [hU]
  have u3 : hU b 3 = ⟨dName b, fldI b 0, fldI b 1, fldI b 2, 0, 0⟩ := by simp [hU]
  have u4 : hU b 4 = ⟨dName b, fldI b 0, fldI b 1, fldI b 2, fldI b 3, 0⟩ := by simp [hU]
  have u5 : hU b 5 = ⟨dName b, fldI b 0, fldI b 1, fldI b 2, fldI b 3, fldI b 4⟩ := by simp [hU]
  refine loop_x hmE (by kernel_rfl) (· + 1) 0 (fun i : Nat => [(32, intV i), (5, intV ([16, 28, 34, 40, 48, 58].getD i 0 : Nat))]) (fun i : Nat => (σ.alloc (.arr 106 0 [hdrV zeroH])).alloc (.arr 106 0 [hdrV (hU b i)]))
    (fun i : Nat => i ≤ 5 ∧ none ∉ (dFld b).take i) (fun i => 5 - i) (by simp) (fun i hi => ⟨by simp, (hσ.alloc_arr (by simp)).alloc_arr (by simp), by simp⟩) (by simp [zeroH, u0]) (by simp) fun i hi => ?_
  obtain ⟨hi, hno⟩ := hi
  have w28 : IntKind.i64.wrap 28 = 28 := wrap64_id (by omega) (by omega)
  have w34 : IntKind.i64.wrap 34 = 34 := wrap64_id (by omega) (by omega)
  have w40 : IntKind.i64.wrap 40 = 40 := wrap64_id (by omega) (by omega)
  have w48 : IntKind.i64.wrap 48 = 48 := wrap64_id (by omega) (by omega)
  have w58 : IntKind.i64.wrap 58 = 58 := wrap64_id (by omega) (by omega)
  obtain rfl | rfl | rfl | rfl | rfl | rfl : i = 0 ∨ i = 1 ∨ i = 2 ∨ i = 3 ∨ i = 4 ∨ i = 5 := by omega
  -- ROUNDS
  · have e5 : (dFld b)[0]? = some (fldN (cutP b 16 12) 10 (dName b == [47, 47])) := rfl
    have hcl : (cutP b 16 12).length = 12 := cut_len (by omega)
    have hP := Parse_p (cutP b 16 12) 10 (by omega)
    have hB := Blank_p (cutP b 16 12) (by omega)
    have ce : List.drop 16 (List.take 28 (List.map byteV b)) = (cutP b 16 12).map byteV := by rw [← List.map_take, ← List.map_drop, cutP, List.drop_take]
    have pc := prs_cases (l := cutP b 16 12) (b := 10) (by omega) (by omega)
    have fI : fldI b 0 = (((dFld b)[0]?.getD none).getD 0 : Nat) := by rw [fldI, List.getD]
    rw [e5] at fI
    generalize cutP b 16 12 = part at *
    simp [prsV] at hP hB
    simp [ce, u0, w28, w34, w40, w48, w58]
    refine ⟨by omega, ?_⟩
    refine ⟨fun ht => ?_, fun ht => ?_⟩
    · have ht' : (dName b == [47, 47]) = true := by simpa using ht
      rw [ht'] at e5 fI
      refine Pur.call hB ?_
      cases hall : part.all (· == 32) with
      | false =>
        have := dec_3 hl60 h1 h2 (List.mem_of_getElem? (i := 0) (by rw [e5]; simp [fldN, hall]))
        simp [hall, this, dec_bad (b := b) (by omega), zeroH]
      | true =>
        have hv : fldN part 10 true = some 0 := by simp [fldN, hall]
        rw [hv] at e5 fI
        simp at fI
        have hnn := take_none hno e5
        simp [hall, u1, fI]
        exact ⟨wrap64_id (by omega) (by omega), hnn⟩
    · have ht' : (dName b == [47, 47]) = false := by simpa using ht
      rw [ht'] at e5 fI
      refine Pur.call hP ?_
      rcases pc with ⟨g1, g2⟩ | ⟨g1, g2⟩
      · rw [g2] at e5 fI
        simp at fI
        have hnn := take_none hno e5
        simp [g1]
        refine (f1_c (hU b 0) _ (σ.next + 1) (by simp [u0])).mono ?_
        rintro a s ⟨rfl, rfl⟩
        simp [u1, fI]
        exact ⟨wrap64_id (by omega) (by omega), hnn⟩
      · have := dec_3 hl60 h1 h2 (List.mem_of_getElem? (i := 0) (by rw [e5, g2]))
        simp [g1, this, dec_bad (b := b) (by omega), zeroH]
  · have e5 : (dFld b)[1]? = some (fldN (cutP b 28 6) 10 (dName b == [47, 47])) := rfl
    have hcl : (cutP b 28 6).length = 6 := cut_len (by omega)
    have hP := Parse_p (cutP b 28 6) 10 (by omega)
    have hB := Blank_p (cutP b 28 6) (by omega)
    have ce : List.drop 28 (List.take 34 (List.map byteV b)) = (cutP b 28 6).map byteV := by rw [← List.map_take, ← List.map_drop, cutP, List.drop_take]
    have pc := prs_cases (l := cutP b 28 6) (b := 10) (by omega) (by omega)
    have fI : fldI b 1 = (((dFld b)[1]?.getD none).getD 0 : Nat) := by rw [fldI, List.getD]
    rw [e5] at fI
    generalize cutP b 28 6 = part at *
    simp [prsV] at hP hB
    simp [ce, u1, w28, w34, w40, w48, w58]
    refine ⟨by omega, ?_⟩
    refine ⟨fun ht => ?_, fun ht => ?_⟩
    · have ht' : (dName b == [47, 47]) = true := by simpa using ht
      rw [ht'] at e5 fI
      refine Pur.call hB ?_
      cases hall : part.all (· == 32) with
      | false =>
        have := dec_3 hl60 h1 h2 (List.mem_of_getElem? (i := 1) (by rw [e5]; simp [fldN, hall]))
        simp [hall, this, dec_bad (b := b) (by omega), zeroH]
      | true =>
        have hv : fldN part 10 true = some 0 := by simp [fldN, hall]
        rw [hv] at e5 fI
        simp at fI
        have hnn := take_none hno e5
        simp [hall, u2, fI]
        exact ⟨wrap64_id (by omega) (by omega), hnn⟩
    · have ht' : (dName b == [47, 47]) = false := by simpa using ht
      rw [ht'] at e5 fI
      refine Pur.call hP ?_
      rcases pc with ⟨g1, g2⟩ | ⟨g1, g2⟩
      · rw [g2] at e5 fI
        simp at fI
        have hnn := take_none hno e5
        simp [g1]
        refine (f2_c (hU b 1) _ (σ.next + 1) (by simp [u1])).mono ?_
        rintro a s ⟨rfl, rfl⟩
        simp [u2, fI]
        exact ⟨wrap64_id (by omega) (by omega), hnn⟩
      · have := dec_3 hl60 h1 h2 (List.mem_of_getElem? (i := 1) (by rw [e5, g2]))
        simp [g1, this, dec_bad (b := b) (by omega), zeroH]
  · have e5 : (dFld b)[2]? = some (fldN (cutP b 34 6) 10 (dName b == [47, 47])) := rfl
    have hcl : (cutP b 34 6).length = 6 := cut_len (by omega)
    have hP := Parse_p (cutP b 34 6) 10 (by omega)
    have hB := Blank_p (cutP b 34 6) (by omega)
    have ce : List.drop 34 (List.take 40 (List.map byteV b)) = (cutP b 34 6).map byteV := by rw [← List.map_take, ← List.map_drop, cutP, List.drop_take]
    have pc := prs_cases (l := cutP b 34 6) (b := 10) (by omega) (by omega)
    have fI : fldI b 2 = (((dFld b)[2]?.getD none).getD 0 : Nat) := by rw [fldI, List.getD]
    rw [e5] at fI
    generalize cutP b 34 6 = part at *
    simp [prsV] at hP hB
    simp [ce, u2, w28, w34, w40, w48, w58]
    refine ⟨by omega, ?_⟩
    refine ⟨fun ht => ?_, fun ht => ?_⟩
    · have ht' : (dName b == [47, 47]) = true := by simpa using ht
      rw [ht'] at e5 fI
      refine Pur.call hB ?_
      cases hall : part.all (· == 32) with
      | false =>
        have := dec_3 hl60 h1 h2 (List.mem_of_getElem? (i := 2) (by rw [e5]; simp [fldN, hall]))
        simp [hall, this, dec_bad (b := b) (by omega), zeroH]
      | true =>
        have hv : fldN part 10 true = some 0 := by simp [fldN, hall]
        rw [hv] at e5 fI
        simp at fI
        have hnn := take_none hno e5
        simp [hall, u3, fI]
        exact ⟨wrap64_id (by omega) (by omega), hnn⟩
    · have ht' : (dName b == [47, 47]) = false := by simpa using ht
      rw [ht'] at e5 fI
      refine Pur.call hP ?_
      rcases pc with ⟨g1, g2⟩ | ⟨g1, g2⟩
      · rw [g2] at e5 fI
        simp at fI
        have hnn := take_none hno e5
        simp [g1]
        refine (f3_c (hU b 2) _ (σ.next + 1) (by simp [u2])).mono ?_
        rintro a s ⟨rfl, rfl⟩
        simp [u3, fI]
        exact ⟨wrap64_id (by omega) (by omega), hnn⟩
      · have := dec_3 hl60 h1 h2 (List.mem_of_getElem? (i := 2) (by rw [e5, g2]))
        simp [g1, this, dec_bad (b := b) (by omega), zeroH]
  · have e5 : (dFld b)[3]? = some (fldN (cutP b 40 8) 8 (dName b == [47, 47])) := rfl
    have hcl : (cutP b 40 8).length = 8 := cut_len (by omega)
    have hP := Parse_p (cutP b 40 8) 8 (by omega)
    have hB := Blank_p (cutP b 40 8) (by omega)
    have ce : List.drop 40 (List.take 48 (List.map byteV b)) = (cutP b 40 8).map byteV := by rw [← List.map_take, ← List.map_drop, cutP, List.drop_take]
    have pc := prs_cases (l := cutP b 40 8) (b := 8) (by omega) (by omega)
    have fI : fldI b 3 = (((dFld b)[3]?.getD none).getD 0 : Nat) := by rw [fldI, List.getD]
    rw [e5] at fI
    generalize cutP b 40 8 = part at *
    simp [prsV] at hP hB
    simp [ce, u3, w28, w34, w40, w48, w58]
    refine ⟨by omega, ?_⟩
    refine ⟨fun ht => ?_, fun ht => ?_⟩
    · have ht' : (dName b == [47, 47]) = true := by simpa using ht
      rw [ht'] at e5 fI
      refine Pur.call hB ?_
      cases hall : part.all (· == 32) with
      | false =>
        have := dec_3 hl60 h1 h2 (List.mem_of_getElem? (i := 3) (by rw [e5]; simp [fldN, hall]))
        simp [hall, this, dec_bad (b := b) (by omega), zeroH]
      | true =>
        have hv : fldN part 8 true = some 0 := by simp [fldN, hall]
        rw [hv] at e5 fI
        simp at fI
        have hnn := take_none hno e5
        simp [hall, u4, fI]
        exact ⟨wrap64_id (by omega) (by omega), hnn⟩
    · have ht' : (dName b == [47, 47]) = false := by simpa using ht
      rw [ht'] at e5 fI
      refine Pur.call hP ?_
      rcases pc with ⟨g1, g2⟩ | ⟨g1, g2⟩
      · rw [g2] at e5 fI
        simp at fI
        have hnn := take_none hno e5
        simp [g1]
        refine (f4_c (hU b 3) _ (σ.next + 1) (by simp [u3])).mono ?_
        rintro a s ⟨rfl, rfl⟩
        simp [u4, fI]
        exact ⟨wrap64_id (by omega) (by omega), hnn⟩
      · have := dec_3 hl60 h1 h2 (List.mem_of_getElem? (i := 3) (by rw [e5, g2]))
        simp [g1, this, dec_bad (b := b) (by omega), zeroH]
  · have e5 : (dFld b)[4]? = some (fldN (cutP b 48 10) 10 false) := rfl
    have hcl : (cutP b 48 10).length = 10 := cut_len (by omega)
    have hP := Parse_p (cutP b 48 10) 10 (by omega)
    have hB := Blank_p (cutP b 48 10) (by omega)
    have ce : List.drop 48 (List.take 58 (List.map byteV b)) = (cutP b 48 10).map byteV := by rw [← List.map_take, ← List.map_drop, cutP, List.drop_take]
    have pc := prs_cases (l := cutP b 48 10) (b := 10) (by omega) (by omega)
    have fI : fldI b 4 = (((dFld b)[4]?.getD none).getD 0 : Nat) := by rw [fldI, List.getD]
    rw [e5] at fI
    generalize cutP b 48 10 = part at *
    simp [prsV] at hP hB
    simp [ce, u4, w28, w34, w40, w48, w58]
    refine ⟨by omega, ?_⟩
    refine Pur.call hP ?_
    rcases pc with ⟨g1, g2⟩ | ⟨g1, g2⟩
    · rw [g2] at e5 fI
      simp at fI
      have hnn := take_none hno e5
      simp [g1]
      refine (f5_c (hU b 4) _ (σ.next + 1) (by simp [u4])).mono ?_
      rintro a s ⟨rfl, rfl⟩
      simp [u5, fI]
      exact ⟨wrap64_id (by omega) (by omega), hnn⟩
    · have := dec_3 hl60 h1 h2 (List.mem_of_getElem? (i := 4) (by rw [e5, g2]))
      simp [g1, this, dec_bad (b := b) (by omega), zeroH]
  -- END ROUNDS
  · obtain ⟨q1, q2⟩ := dec_0 hl60 h1 h2 (by simpa [dFld] using hno)
    simp [q1, q2]
end Go.Proofs.YtcjdagpadnahfaaGreatDoor
