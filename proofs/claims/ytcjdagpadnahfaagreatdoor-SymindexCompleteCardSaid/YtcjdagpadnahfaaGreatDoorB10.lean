/- The index, the complete archive, positions. No condition. -/
import Derived.Test.YtcjdagpadnahfaaGreatDoorB9
set_option linter.unusedVariables false
set_option linter.unusedSimpArgs false
set_option linter.unnecessarySimpa false
namespace Go.Proofs.YtcjdagpadnahfaaGreatDoor
open Go Go.AW
set_option maxRecDepth 100000
set_option maxHeartbeats 8000000

/-- Few definitions too. -/
def fewD (l : List M) : Prop := fewM l ∧ (nmsD l).length ≤ 7000
theorem nmsD_ok {l : List M} {n : W} (h : n ∈ nmsD l) : 1 ≤ n.length ∧ n.length ≤ 255 ∧ n.contains 0 = false := namesL_ok h
theorem msz_few {l : List M} (hl : fewD l) : msz (nmsD l) ≤ 2000000 := by
  have := msz_le (k := 0) (ns := nmsD l) fun n hn => (nmsD_ok hn).2.1
  have := hl.2
  omega
def hasD (l : List M) : Bool := decide (0 < (nmsD l).length)
def offs (l : List M) : List Int := offsP (hasD l) (msz (nmsD l)) l
theorem offsets_p (l : List M) (hl : fewD l) : Pur E 37 [memsV l] (ints (offs l)) := by
  have h1 := snames_p l hl.1
  have h2 := Size_p (nmsD l) (by have := hl.2; omega) fun n hn => (nmsD_ok hn).2.1
  have h3 := Offsets_p (hasD l) (msz (nmsD l)) l (msz_few hl) hl.1
  simp [hasD] at h1 h2 h3
  refine Pur.enter [] Tryz.func37 rfl Tryz.ntmps37 Tryz.results37 hmE (by kernel_rfl) (by simp) (by simp) fun σ hσ => ?_
  conv => arg 5; cbv
  simp
  refine Pur.call h1 ?_
  simp
  refine Pur.call h2 ?_
  simp
  refine Pur.call h3 ?_
  simp [offs, hasD]
def idx (l : List M) : List En := if (fitsI l).2 = 0 then ixK (offs l) l l.length else []
theorem baseP_le {hm : Bool} {ms : Nat} {l : List M} (hms : ms ≤ 2000000) (hl : fewM l) : baseP hm ms l ≤ 4000000 := by
  have h1 := nmsT_len hl
  unfold baseP
  have hm1 := Nat.mod_two_eq_zero_or_one ms
  have hm2 := Nat.mod_two_eq_zero_or_one (nmsT l).length
  have p1 : psz ms ≤ 2000061 := by unfold psz; omega
  have p2 : psz (nmsT l).length ≤ 1002061 := by unfold psz; omega
  split <;> split <;> omega
theorem offs_range {l : List M} (hl : fewD l) (h0 : (fitsI l).2 = 0) (i : Nat) (h : i < l.length) : ∃ o : Nat, (offs l)[i]? = some (o : Int) ∧ o ≤ 200000000 := by
  have hb := baseP_le (hm := hasD l) (msz_few hl) hl.1
  have hs := szp_le hl.1 i
  refine ⟨baseP (hasD l) (msz (nmsD l)) l + szp (l.take i), ?_, by omega⟩
  rw [offs, offsP, if_pos h0]
  simp [offP, h]
theorem offs_len {l : List M} (h0 : (fitsI l).2 = 0) : (offs l).length = l.length := by rw [offs, offsP, if_pos h0]; simp
theorem ixK_ok {l : List M} (hl : fewD l) (h0 : (fitsI l).2 = 0) : (ixK (offs l) l l.length).all entOk = true := by
  refine entsK_ok fun i hi => ?_
  obtain ⟨o, h1, h2⟩ := offs_range hl h0 i hi
  simp only [List.getD, h1, Option.getD_some]
  omega
theorem ixK_fine {l : List M} (hl : fewD l) (os : List Int) (k : Nat) (hk : k ≤ l.length) : (ixK os l k).length ≤ 7000 ∧ (mapNm (ixK os l k)).length ≤ 2000000 := by
  have h1 := ixK_len os l k hk
  have h2 := ixK_names os l k hk
  have h3 : (nmsD (l.take k)).length ≤ (nmsD l).length := by
    conv => rhs; rw [← List.take_append_drop k l]
    rw [show nmsD (l.take k ++ l.drop k) = nmsD (l.take k) ++ nmsD (l.drop k) by simp only [nmsD, namesL, List.map_append, List.flatMap_append], List.length_append]
    omega
  have h4 := hl.2
  refine ⟨by omega, ?_⟩
  have h5 : (mapB (ixK os l k)).length = msz (nmsD (l.take k)) := by rw [mapB_len, h2]
  have h6 := msz_le (k := 0) (ns := nmsD (l.take k)) fun n hn => (nmsD_ok hn).2.1
  simp [mapB] at h5
  omega
theorem SIndex_p (l : List Int) (hl : l.length ≤ 1000000) (v : Int) : Pur E 42 [ints l, intV v] (intV (match l.findIdx? (· == v) with | some i => (i : Int) | none => -1)) := by
  refine Pur.enter [] Tryz.func42 rfl Tryz.ntmps42 Tryz.results42 hmE (by kernel_rfl) (by simp) (by simp) fun σ hσ => ?_
  conv => arg 5; cbv
  simp
  refine loop_n hmE (by kernel_rfl) l.length (fun i => [(8, intV i)]) (fun i => i ≤ l.length ∧ ∀ k x, k < i → l[k]? = some x → x ≠ v) (Nat.le_refl _) hσ (by simp) (by simp) (by simp) fun i ⟨hi, he⟩ => ?_
  simp
  refine ⟨fun hil => ?_, fun hil => ?_⟩
  · obtain ⟨x, hx⟩ := get_ex hil
    refine ⟨x, hx, fun e => ?_, fun e => ⟨wrap_succ hil (by omega), ⟨by omega, fun k s hk hs => ?_⟩, by omega⟩⟩
    · have : l.findIdx? (fun x => x == v) = some i := by
        rw [List.findIdx?_eq_some_iff_getElem]
        have hxi : l[i] = x := (List.getElem?_eq_some_iff.1 hx).2
        refine ⟨hil, by simp [hxi, e], fun j hj => ?_⟩
        have := he j l[j] hj (by simp)
        simpa using this
      rw [this]
    · rcases Nat.lt_succ_iff_lt_or_eq.1 hk with hk | rfl
      · exact he k s hk hs
      · rw [hx] at hs; cases hs; exact fun h => e h.symm
  · have : l.findIdx? (fun x => x == v) = none := by
      rw [List.findIdx?_eq_none_iff]
      intro x hx
      obtain ⟨k, hk⟩ := List.getElem?_of_mem hx
      have := he k x (by have := (List.getElem?_eq_some_iff.1 hk).1; omega) hk
      simpa using this
    rw [this]
theorem Index8_p (l : List M) (hl : fewD l) : Pur E 14 [memsV l] (.tup [entsV (idx l), intV (fitsI l).2]) := by
  have h1 := AFits_p l hl.1
  have h2 := offsets_p l hl
  simp at h1 h2
  refine Pur.enter [] Tryz.func14 rfl Tryz.ntmps14 Tryz.results14 hmE (by kernel_rfl) (by simp) (by simp) fun σ hσ => ?_
  conv => arg 5; cbv
  by_cases h0 : (fitsI l).2 = 0
  · have ol := offs_len h0
    have ok := ixK_ok hl h0
    obtain ⟨f1, f2⟩ := ixK_fine hl (offs l) l.length (Nat.le_refl _)
    have hE := Encode7_p (ixK (offs l) l l.length) (by omega) (by omega)
    simp [mapE, ok] at hE
    have hI := fun c s g => index_c (offs l) l hl.1 ol c s g
    simp at hI
    simp
    refine Pur.call h1 ?_
    repeat (simp [-thenK_normal, h0]; try simp only [thenK_normal])
    refine Pur.call h2 ?_
    simp
    refine (hI _ _ ?_).mono ?_
    · simp
    rintro r s ⟨rfl, rfl⟩
    simp
    refine Pur.call hE ?_
    simp [idx, h0]
  · simp
    refine Pur.call h1 ?_
    repeat (simp [-thenK_normal, h0]; try simp only [thenK_normal])
    simp [idx, h0]
theorem idx_fine {l : List M} (hl : fewD l) : (idx l).length ≤ 7000 ∧ (mapNm (idx l)).length ≤ 2000000 ∧ mapE (idx l) = 0 ∧ (mapB (idx l)).length ≤ 2000000 := by
  unfold idx
  split
  · rename_i h0
    obtain ⟨f1, f2⟩ := ixK_fine hl (offs l) l.length (Nat.le_refl _)
    have ok := ixK_ok hl h0
    have h2 := ixK_names (offs l) l l.length (Nat.le_refl _)
    rw [List.take_length] at h2
    refine ⟨f1, f2, by simp [mapE, ok], ?_⟩
    rw [mapB_len, h2]
    exact msz_few hl
  · simp [mapNm, mapE, mapB, mapOf]
def cmpL (l : List M) : W := outL (hasD l) (mapL (idx l)) l
theorem idx_has {l : List M} (h0 : (fitsI l).2 = 0) : decide (0 < (idx l).length) = hasD l := by
  have h2 := ixK_len (offs l) l l.length (Nat.le_refl _)
  rw [List.take_length] at h2
  rw [idx, if_pos h0, hasD, h2]
theorem Complete_p (l : List M) (hl : fewD l) : Pur E 13 [memsV l] (.tup [bytes (cmpL l), intV (fitsI l).2]) := by
  have h1 := Index8_p l hl
  obtain ⟨f1, f2, f3, f4⟩ := idx_fine hl
  have h2 := Encode7_p (idx l) (by omega) (by omega)
  have hml : (mapL (idx l)).length ≤ 2000000 := by
    unfold mapL
    split
    · exact f4
    · simp
  have h3 := Write_p (hasD l) (mapL (idx l)) l hml hl.1
  simp [f3] at h1 h2 h3
  refine Pur.enter [] Tryz.func13 rfl Tryz.ntmps13 Tryz.results13 hmE (by kernel_rfl) (by simp) (by simp) fun σ hσ => ?_
  conv => arg 5; cbv
  by_cases h0 : (fitsI l).2 = 0
  · have hh := idx_has h0
    simp [← hh, h0] at h3
    simp
    refine Pur.call h1 ?_
    simp [h0]
    refine Pur.call h2 ?_
    simp
    first | refine Pur.call h3 ?_ | refine Pur.d h3 ?_
    simp [cmpL, hh]
  · simp
    refine Pur.call h1 ?_
    simp [h0]
    simp [cmpL, outL, h0]
def atI (l : List M) (at_ : Int) : Option Nat := (offs l).findIdx? (· == at_)
def atV (l : List M) (at_ : Int) : AV := match atI l at_ with
  | some i => .tup [intV i, boolV true]
  | none => .tup [intV 0, boolV false]
theorem offs_len_le {l : List M} : (offs l).length ≤ l.length := by
  rw [offs, offsP]; split <;> simp
theorem At_p (l : List M) (hl : fewD l) (v : Int) : Pur E 15 [memsV l, intV v] (atV l v) := by
  have h1 := offsets_p l hl
  have hle := offs_len_le (l := l)
  have hll := hl.1.1
  have h2 := SIndex_p (offs l) (by omega) v
  simp at h1 h2
  refine Pur.enter [] Tryz.func15 rfl Tryz.ntmps15 Tryz.results15 hmE (by kernel_rfl) (by simp) (by unfold atV; split <;> simp) fun σ hσ => ?_
  conv => arg 5; cbv
  cases hf : atI l v with
  | some i =>
    unfold atI at hf
    rw [hf] at h2
    simp [atV, atI, hf]
    refine Pur.call h1 ?_
    simp
    first | refine Pur.call h2 ?_ | refine Pur.d h2 ?_
    simp
    omega
  | none =>
    unfold atI at hf
    rw [hf] at h2
    simp [atV, atI, hf]
    refine Pur.call h1 ?_
    simp
    first | refine Pur.call h2 ?_ | refine Pur.d h2 ?_
    simp
end Go.Proofs.YtcjdagpadnahfaaGreatDoor
