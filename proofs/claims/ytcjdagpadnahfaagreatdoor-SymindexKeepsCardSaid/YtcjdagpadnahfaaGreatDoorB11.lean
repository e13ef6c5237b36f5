/- The reference's index, whose entries are written in place. No condition. -/
import Derived.Test.YtcjdagpadnahfaaGreatDoorB10
set_option linter.unusedVariables false
set_option linter.unusedSimpArgs false
set_option linter.unnecessarySimpa false
namespace Go.Proofs.YtcjdagpadnahfaaGreatDoor
open Go Go.AW
set_option maxRecDepth 100000
set_option maxHeartbeats 8000000

theorem rEncode7_c (l : List En) (hl : l.length ≤ 10000000) (hn : (mapNm l).length ≤ 10000000000) (c g : Nat) (σ : Store) (h1 : σ.get c = some (.arr 44 g (l.map entV))) :
    ACalls E 33 [.rs c g 0 l.length] σ fun a s => a = .tup [bytes (mapL l), intV (mapE l)] ∧ s = σ := by
  refine ACalls.enterA [] Tryz.func33 rfl Tryz.ntmps33 Tryz.results33 hmE (by kernel_rfl) (by simp) fun hσ => ?_
  conv => arg 5; cbv
  have b1 := (hσ _ _ h1).1
  have bn : ¬ c = σ.next := by omega
  simp
  refine (Word_c l.length (by omega) (by omega) σ).mono ?_
  rintro r s ⟨rfl, rfl⟩
  simp
  refine loop_x hmE (by kernel_rfl) (· + 1) 0 (fun i : Nat => [(5, intV i), (4, .lg σ.next ((enc1 l i).map byteV))]) (fun i : Nat => σ.alloc (.log 5 (enc1 l i).length)) (fun i : Nat => i ≤ l.length ∧ (l.take i).all entOk = true) (fun i => l.length - i) (by simp) (fun i hi => by simp [hσ, b1]; omega) (by simp [enc10]) (by simp [enc10]) fun i hi => ?_
  obtain ⟨hi, hall⟩ := hi
  simp [-List.all_eq_true]
  refine ⟨fun h => ?_, fun h => ?_⟩
  · obtain ⟨e, he⟩ := get_ex h
    have hnl : e.name.length ≤ 10000000000 := by
      have := mapNm_le l (i + 1)
      rw [mapNm_snoc' he] at this
      simp at this; omega
    simp [-List.all_eq_true, h1, bn, he]
    have hf := Fits7_p e hnl
    simp at hf
    refine ⟨h, ?_⟩
    refine Pur.call hf ?_
    have hs := enc1_snoc he
    have hln := enc1_len l i
    cases hok : entOk e with
    | false =>
      have := all_no he hok
      simp [mapL, mapE, this]
      exact Fin.eqv hσ (by simp) (by simp) (by simp)
    | true =>
      have ha := all_snoc he hall hok
      have hW := Word_p e.off (ofl_off hok) (by simp [entOk] at hok; omega)
      simp at hW
      simp [-List.all_eq_true]
      simp [-List.all_eq_true, h1, bn, he]
      refine ⟨h, ?_⟩
      refine Pur.call hW ?_
      simp [-List.all_eq_true, hs, ha]
      exact ⟨by omega, by omega, wrap_succ h (by omega), h, by omega⟩
  · obtain rfl : i = l.length := by omega
    rw [List.take_length] at hall
    simp [← enc12]
    refine loop_x hmE (by kernel_rfl) (· + 1) 0 (fun i : Nat => [(6, intV i), (4, .lg σ.next ((enc2 l i).map byteV))]) (fun i : Nat => σ.alloc (.log 5 (enc2 l i).length)) (fun i : Nat => i ≤ l.length) (fun i => l.length - i) (by simp) (fun i hi => by simp [hσ, b1]; omega) (by simp) (by simp) fun i hi => ?_
    simp
    refine ⟨fun h => ?_, fun h => ?_⟩
    · obtain ⟨e, he⟩ := get_ex h
      simp [h1, bn, he]
      have hs := enc2_snoc he
      have hln := enc2_len l i
      have hm := mapNm_le l (i + 1)
      rw [mapNm_snoc' he] at hm
      simp at hm
      simp [hs]
      rw [show (enc2 l i).length + (e.name.length + 1) = (enc2 l i).length + e.name.length + 1 by omega]
      exact ⟨h, by omega, by omega, by omega, by omega, .refl _, wrap_succ h (by omega), h, by omega⟩
    · obtain rfl : i = l.length := by omega
      simp [mapL, mapE, enc2_all, hall]
      exact Fin.eqv hσ (by simp) (by simp) (by simp)
/-- The entries ahead of their offsets; the members they are of. -/
def z0 (l : List M) (i : Nat) : List En := (nmsD (l.take i)).map fun n => ⟨n, 0⟩
def ofL (l : List M) (i : Nat) : List Nat := (List.range i).flatMap fun j => ((defsO ((l.map M.data).getD j [])).map fun _ => j)
theorem z0_snoc {l : List M} {i : Nat} {m : M} (h : l[i]? = some m) : z0 l (i + 1) = z0 l i ++ entL 0 (defsO m.data) := by
  rw [z0, nmsD_snoc h, List.map_append]; rfl
theorem ofL_snoc {l : List M} {i : Nat} {m : M} (h : l[i]? = some m) : ofL l (i + 1) = ofL l i ++ (defsO m.data).map fun _ => i := by
  have e1 : (l.map M.data).getD i [] = m.data := by simp [List.getD, h]
  rw [ofL, List.range_succ, List.flatMap_append]
  simp only [List.flatMap_singleton, e1]
  rfl
theorem ofL_len (l : List M) : ∀ i, i ≤ l.length → (ofL l i).length = (nmsD (l.take i)).length
  | 0, _ => by simp [ofL, nmsD, namesL]
  | i + 1, h => by
    obtain ⟨m, hm⟩ := get_ex (l := l) (i := i) (by omega)
    rw [ofL_snoc hm, nmsD_snoc hm, List.length_append, List.length_append, ofL_len l i (by omega), List.length_map]
theorem ofL_lt (l : List M) (i : Nat) : ∀ x ∈ ofL l i, x < i := by
  intro x hx
  obtain ⟨j, hj, hx⟩ := List.mem_flatMap.1 hx
  obtain ⟨_, _, rfl⟩ := List.mem_map.1 hx
  exact List.mem_range.1 hj
theorem ixK_zip (os : List Int) (l : List M) : ∀ i, i ≤ l.length → ixK os l i = List.zipWith (fun e j => (⟨e.name, os.getD j 0⟩ : En)) (z0 l i) (ofL l i)
  | 0, _ => by simp [ixK, entsK, z0, ofL, nmsD, namesL]
  | i + 1, h => by
    obtain ⟨m, hm⟩ := get_ex (l := l) (i := i) (by omega)
    have e1 : (l.map M.data).getD i [] = m.data := by simp [List.getD, hm]
    rw [z0_snoc hm, ofL_snoc hm, List.zipWith_append (by rw [ofL_len l i (by omega)]; simp [z0]), ← ixK_zip os l i (by omega), ixK, entsK_succ]
    simp only [e1]
    congr 1
    generalize defsO m.data = d
    induction d with
    | nil => rfl
    | cons n d ih => simp [entL] at ih ⊢
theorem z0_len (l : List M) (i : Nat) : (z0 l i).length = (nmsD (l.take i)).length := by simp [z0]
theorem z0_fine {l : List M} (hl : fewD l) : (z0 l l.length).length ≤ 7000 ∧ (mapNm (z0 l l.length)).length ≤ 2000000 ∧ mapE (z0 l l.length) = 0 ∧ (mapL (z0 l l.length)).length = msz (nmsD l) := by
  have e1 : (z0 l l.length).map En.name = nmsD l := by simp [z0, Function.comp_def]
  have hok : (z0 l l.length).all entOk = true := by
    rw [List.all_eq_true]
    intro e he
    simp only [z0, List.take_length, List.mem_map] at he
    obtain ⟨n, hn, rfl⟩ := he
    obtain ⟨h1, _, h3⟩ := nmsD_ok hn
    simp only [entOk, h3]
    have : n.isEmpty = false := by cases n <;> simp_all
    rw [this]; rfl
  have hB : (mapB (z0 l l.length)).length = msz (nmsD l) := by rw [mapB_len, e1]
  have hm := msz_few hl
  refine ⟨by rw [z0_len, List.take_length]; exact hl.2, ?_, by rw [mapE, if_pos hok], by rw [mapL, if_pos hok, hB]⟩
  simp [mapB] at hB
  omega
def refC (l : List M) : AV := .tup [bytes (cmpL l), entsV (idx l), ints (offs l), intV (fitsI l).2]
def natV (n : Nat) : AV := intV n
attribute [simp] natV
@[simp high] theorem frzL_natV (l : List Nat) : frzL (l.map natV) = l.map natV := by rw [frzL_map]; exact List.map_congr_left fun x _ => by simp
def zK (l : List M) (i : Nat) (d : List W) (k : Nat) : List En := z0 l i ++ entL 0 (d.take k)
def oK (l : List M) (i k : Nat) : List Nat := ofL l i ++ List.replicate k i
theorem zK_succ {l : List M} {i : Nat} {d : List W} {k : Nat} {x : W} (h : d[k]? = some x) : zK l i d (k + 1) = zK l i d k ++ [⟨x, 0⟩] := by rw [zK, entL_snoc h, zK, List.append_assoc]
theorem oK_succ (l : List M) (i k : Nat) : oK l i (k + 1) = oK l i k ++ [i] := by rw [oK, oK, List.append_assoc, List.replicate_succ']
theorem zK_len (l : List M) (i : Nat) (d : List W) (k : Nat) (h : k ≤ d.length) : (zK l i d k).length = (z0 l i).length + k := by simp [zK]; omega
theorem oK_len (l : List M) (i k : Nat) : (oK l i k).length = (ofL l i).length + k := by simp [oK]
theorem zK_0 (l : List M) (i : Nat) (d : List W) : zK l i d 0 = z0 l i := by simp [zK, entL]
theorem oK_0 (l : List M) (i : Nat) : oK l i 0 = ofL l i := by simp [oK]
theorem zK_end {l : List M} {i : Nat} {m : M} (h : l[i]? = some m) : zK l i (defsO m.data) (defsO m.data).length = z0 l (i + 1) := by rw [zK, List.take_length, z0_snoc h]
theorem oK_end {l : List M} {i : Nat} {m : M} (h : l[i]? = some m) : oK l i (defsO m.data).length = ofL l (i + 1) := by rw [oK, ofL_snoc h, List.map_const']
def stZ (σ : Store) (g : Nat) (z : List En) (o : List Nat) : Store := (σ.alloc (.arr 44 g (z.map entV))).alloc (.log 3 o.length)
theorem stZ_bel {σ : Store} (hσ : StoreBel σ) (g : Nat) (z : List En) (o : List Nat) : StoreBel (stZ σ g z o) := StoreBel.alloc_log (StoreBel.alloc_arr hσ (by simp)) _ _
@[simp] theorem stZ_next (σ : Store) (g : Nat) (z : List En) (o : List Nat) : (stZ σ g z o).next = σ.next + 2 := rfl
theorem stZ_get (σ : Store) (g : Nat) (z : List En) (o : List Nat) : (stZ σ g z o).get σ.next = some (.arr 44 g (z.map entV)) := by simp [stZ]
/-- The entries, of which the first k have their offsets. -/
def mix (A Z : List En) (k : Nat) : List En := A.take k ++ Z.drop k
theorem mix_len {A Z : List En} (h : A.length = Z.length) (k : Nat) : (mix A Z k).length = Z.length := by simp [mix]; omega
theorem mix_0 (A Z : List En) : mix A Z 0 = Z := by simp [mix]
theorem mix_end {A Z : List En} (h : A.length = Z.length) : mix A Z Z.length = A := by rw [mix, ← h, List.take_length, h, List.drop_length, List.append_nil]
theorem mix_get {A Z : List En} (h : A.length = Z.length) {k : Nat} (hk : k < Z.length) : (mix A Z k)[k]? = Z[k]? := by
  rw [mix, List.getElem?_append_right (by simp; omega)]
  simp [show min k A.length = k by omega]
theorem mix_succ {A Z : List En} (h : A.length = Z.length) {k : Nat} {e : En} (he : A[k]? = some e) : mix A Z (k + 1) = (mix A Z k).set k e := by
  have hk := (List.getElem?_eq_some_iff.1 he).1
  rw [mix, mix, List.set_append_right _ _ (by simp; omega), List.take_add_one, he]
  simp only [List.length_take, show k - min k A.length = 0 by omega, Option.toList_some, List.append_assoc]
  rw [List.drop_eq_getElem_cons (show k < Z.length by omega)]
  rfl
theorem stZ_set (σ : Store) (g : Nat) (z z' : List En) (o : List Nat) : (stZ σ g z o).set σ.next (.arr 44 g (z'.map entV)) = stZ σ g z' o := by
  have : ((stZ σ g z o).set σ.next (.arr 44 g (z'.map entV))).get = (stZ σ g z' o).get := by
    funext j
    simp only [stZ, set_get, alloc_get, alloc_next]
    by_cases h1 : j = σ.next
    · simp [h1]
    · simp [h1]
  show (⟨((stZ σ g z o).set σ.next (.arr 44 g (z'.map entV))).get, _⟩ : Store) = _
  rw [this]
  rfl
theorem rComplete_p (l : List M) (hl : fewD l) : Pur E 12 [memsV l] (refC l) := by
  have hF := rAFits_p l hl.1
  simp at hF
  refine Pur.enter [4000008, 3000009, 56] Tryz.func12 rfl Tryz.ntmps12 Tryz.results12 hmE (by kernel_rfl) (by simp) (by simp [refC]) fun σ hσ => ?_
  conv => arg 5; cbv
  by_cases h0 : (fitsI l).2 = 0
  · simp
    refine Pur.call hF ?_
    simp [h0]
    refine loop_x hmE (by kernel_rfl) (· + 1) 0 (fun i : Nat => [(10, intV i), (8, .rs σ.next (z0 l i).length 0 (z0 l i).length), (9, .lg (σ.next + 1) ((ofL l i).map natV))]) (fun i : Nat => stZ σ (z0 l i).length (z0 l i) (ofL l i)) (fun i : Nat => i ≤ l.length) (fun i => l.length - i) (by simp) (fun i hi => by simp [stZ_bel hσ]) (by simp [stZ, z0, ofL, nmsD, namesL]) (by simp [z0, ofL, nmsD, namesL]) fun i hi => ?_
    simp
    refine ⟨fun h => ?_, fun h => ?_⟩
    · obtain ⟨m, hm⟩ := get_ex h
      refine ⟨m, hm, ?_⟩
      have hml := (hl.1.2 m (List.mem_of_getElem? hm)).2.2.2.2.2
      have hD := rDefs_p m.data (by omega)
      have hdl := defsO_len m.data
      simp at hD
      refine Pur.call hD ?_
      simp
      have hs1 := zK_end hm
      have hs2 := oK_end hm
      obtain ⟨d, hd⟩ : ∃ d, d = defsO m.data := ⟨_, rfl⟩
      rw [← hd] at hs1 hs2 hdl
      rw [← hd]
      have hzl := z0_len l i
      have hol := ofL_len l i hi
      have hnl := nmsD_le hl.1 i
      have hll := hl.1.1
      refine loop_x hmE (by kernel_rfl) (· + 1) 0 (fun k : Nat => [(12, intV k), (8, .rs σ.next (zK l i d k).length 0 (zK l i d k).length), (9, .lg (σ.next + 1) ((oK l i k).map natV))]) (fun k : Nat => stZ σ (zK l i d k).length (zK l i d k) (oK l i k)) (fun k : Nat => k ≤ d.length) (fun k => d.length - k) (by simp) (fun k hk => by simp [stZ_bel hσ]) (by simp [zK_0, oK_0]) (by simp [zK_0, oK_0]) fun k hk => ?_
      simp
      refine ⟨fun h => ?_, fun h => ?_⟩
      · obtain ⟨x, hx⟩ := get_ex h
        have hz := zK_succ (l := l) (i := i) hx
        have ho := oK_succ l i k
        have z1 := zK_len l i d k hk
        have o1 := oK_len l i k
        simp [stZ, hx, hz, ho]
        exact ⟨by omega, by omega, by omega, by omega, wrap_succ h (by omega), h, by omega⟩
      · obtain rfl : k = d.length := by omega
        rw [hs1, hs2]
        simp
        exact ⟨wrap_succ (by assumption) (by omega), by omega, by omega⟩
    · obtain rfl : i = l.length := by omega
      obtain ⟨f1, f2, f3, f4⟩ := z0_fine hl
      have hll := hl.1.1
      have hms := msz_few hl
      have hzl := z0_len l l.length
      have hol := ofL_len l l.length (Nat.le_refl _)
      have hE := rEncode7_c (z0 l l.length) (by omega) (by omega) σ.next (z0 l l.length).length _ (stZ_get σ (z0 l l.length).length (z0 l l.length) (ofL l l.length))
      have hW := rWrite_p (hasD l) (mapL (z0 l l.length)) l (by omega) hl.1
      have hO := offs_same (hasD l) (mapL (z0 l l.length)) (by omega) hl.1
      rw [f4] at hO
      have hO : offs l = refO (hasD l) (mapL (z0 l l.length)) l := hO
      simp [f3, h0, ← hO] at hE hW
      have hz : decide (0 < (z0 l l.length).length) = hasD l := by rw [hasD, hzl, List.take_length]
      refine hE.mono ?_
      rintro r s ⟨rfl, rfl⟩
      simp [hz]
      refine Pur.call hW ?_
      simp
      obtain ⟨Z, hZ⟩ : ∃ Z, Z = z0 l l.length := ⟨_, rfl⟩
      obtain ⟨O, hOf⟩ : ∃ O, O = ofL l l.length := ⟨_, rfl⟩
      obtain ⟨A, hA⟩ : ∃ A, A = ixK (offs l) l l.length := ⟨_, rfl⟩
      have hAz := ixK_zip (offs l) l l.length (Nat.le_refl _)
      have hlt := ofL_lt l l.length
      rw [← hZ, ← hOf, ← hA] at hAz
      rw [← hZ] at hzl f1 hz
      rw [← hOf] at hol hlt
      rw [← hZ, ← hOf]
      have hAl : A.length = Z.length := by rw [hAz, List.length_zipWith, hol, hzl]; omega
      refine loop_x hmE (by kernel_rfl) (· + 1) 0 (fun k : Nat => [(18, intV k)]) (fun k : Nat => stZ σ Z.length (mix A Z k) O) (fun k : Nat => k ≤ Z.length) (fun k => Z.length - k) (by simp) (fun k hk => by simp [stZ_bel hσ]) (by simp [mix_0]) (by simp) fun k hk => ?_
      simp
      refine ⟨fun h => ?_, fun h => ?_⟩
      · obtain ⟨e, he⟩ := get_ex h
        obtain ⟨j, hj⟩ := get_ex (l := O) (i := k) (by omega)
        have hjl := hlt j (List.mem_of_getElem? hj)
        obtain ⟨o, ho, hor⟩ := offs_range hl h0 j hjl
        have hAk : A[k]? = some ⟨e.name, o⟩ := by
          rw [hAz, List.getElem?_zipWith, he, hj]
          simp [List.getD, ho]
        have hmk : (mix A Z k)[k]? = some e := by rw [mix_get hAl h, he]
        have hms := mix_succ hAl hAk
        have hml := mix_len hAl k
        simp [hj, ho, stZ_get, hmk, h, hml]
        have hmg : ∀ hh : k < (mix A Z k).length, (mix A Z k)[k] = e := fun hh => (List.getElem?_eq_some_iff.1 hmk).2
        have hst := stZ_set σ Z.length (mix A Z k) (mix A Z (k + 1)) O
        rw [hms, List.map_set] at hst
        simp at hst
        rw [hmg, hst, hms]
        exact ⟨.refl _, wrap_succ h (by omega), h, by omega⟩
      · obtain rfl : k = Z.length := by omega
        rw [mix_end hAl]
        obtain ⟨g1, g2⟩ := ixK_fine hl (offs l) l.length (Nat.le_refl _)
        have gok := ixK_ok hl h0
        have gb := msz_few hl
        have gn := ixK_names (offs l) l l.length (Nat.le_refl _)
        rw [← hA] at g1 g2 gok gn
        rw [List.take_length] at gn
        have gL : (mapL A).length = msz (nmsD l) := by rw [mapL, if_pos gok, mapB_len, gn]
        have hE2 := rEncode7_c A (by omega) (by omega) σ.next Z.length _ (stZ_get σ Z.length A O)
        have hW2 := rWrite_p (hasD l) (mapL A) l (by omega) hl.1
        have hiA : idx l = A := by rw [idx, if_pos h0, hA]
        rw [hAl] at hE2
        simp [mapE, gok, h0] at hE2 hW2
        refine hE2.mono ?_
        rintro r s ⟨rfl, rfl⟩
        simp [hz]
        refine Pur.call hW2 ?_
        simp [refC, cmpL, hiA]
        rw [stZ_get]
        simp [hAl, h0]
        exact ⟨by rw [← hAl, ← List.map_take, List.take_length], by simp [stZ]⟩
  · simp
    refine Pur.call hF ?_
    simp [h0]
    simp [refC, cmpL, outL, idx, offs, offsP, h0]
end Go.Proofs.YtcjdagpadnahfaaGreatDoor
