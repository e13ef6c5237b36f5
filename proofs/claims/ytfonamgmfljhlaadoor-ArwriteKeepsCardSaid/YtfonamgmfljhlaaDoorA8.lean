/- Archives written by the program. No condition. -/
import Derived.Test.YtfonamgmfljhlaaDoorA7
set_option linter.unusedVariables false
set_option linter.unusedSimpArgs false
set_option linter.unnecessarySimpa false
namespace Go.Proofs.YtfonamgmfljhlaaDoor
open Go Go.AW
set_option maxRecDepth 100000
set_option maxHeartbeats 8000000

def preMap (hm : Bool) (m : W) : W := if hm then partL hMap m else []
def preTab (t : W) : W := if t = [] then [] else partL hTab t
def memsL (z : List (M × W)) : W := z.flatMap fun p => partL (hdrM p.1 p.2) p.1.data
def eachL (hm : Bool) (m : W) (l : List M) : W := preMap hm m ++ (preTab (nmsT l) ++ memsL (zipL l))
theorem partL_len (h : H) (d : W) : (partL h d).length ≤ 61 + d.length := by
  have := encL_len (h.sized d)
  simp [partL, padL]
  split <;> simp <;> omega
theorem memsL_len (z : List (M × W)) (hz : ∀ p ∈ z, p.1.data.length ≤ 100000) : (memsL z).length ≤ 100061 * z.length := by
  induction z with
  | nil => simp [memsL]
  | cons p z ih =>
    have h1 := hz p (by simp)
    have h2 := ih fun p hp => hz p (by simp [hp])
    have h3 := partL_len (hdrM p.1 p.2) p.1.data
    simp [memsL] at h2 ⊢
    omega
theorem memsL_snoc {z : List (M × W)} {i : Nat} {p : M × W} (h : z[i]? = some p) : memsL (z.take (i + 1)) = memsL (z.take i) ++ partL (hdrM p.1 p.2) p.1.data := by
  rw [List.take_add_one, h]; simp [memsL]
theorem zip_get {l : List M} {fs : List W} {i : Nat} {m : M} {f : W} (h1 : l[i]? = some m) (h2 : fs[i]? = some f) : (l.zip fs)[i]? = some (m, f) := by
  rw [List.getElem?_zip_eq_some]; exact ⟨h1, h2⟩
theorem each_c (hm : Bool) (m : W) (l : List M) (hmm : m.length ≤ 2000000) (hl : fewM l) (h0 : (fitsI l).2 = 0) (n i : Nat) (out : W) (ho : out.length ≤ 1000) (σ : Store) (hw : isWr σ n i out) :
    ACalls E 15 [boolV hm, bytes m, memsV l, .fn (.func 16) [.rp n 0 0 0] []] σ fun a s => a = .tup [] ∧ s = wr σ n i (out ++ eachL hm m l) := by
  have hT : (nmsT l).length ≤ 1002000 := by
    have h1 := all_valid h0
    have h2 := bld_len _ (fewN_of hl).2
    have h3 := hl.1
    rw [nmsT, bldT, if_pos h1]
    simp at h2
    omega
  have hF := nmsF_len hl h0
  have hz := zip_ok hl h0
  have hzl : (zipL l).length = l.length := by simp [zipL, hF]
  have lim0 : hMap.lim := by simp [H.lim, hMap]
  have lim1 : hTab.lim := by simp [H.lim, hTab]
  refine ACalls.enterA [6000024] Tryd.func15 rfl Tryd.ntmps15 Tryd.results15 hmE (by kernel_rfl) (by simp) fun hσ => ?_
  conv => arg 5; cbv
  have hn1 := (hσ _ _ hw.1).1
  have hi1 := (hσ _ _ hw.2).1
  simp
  have hll := hl.1
  have hpm : partL hMap m ≠ [] → True := fun _ => trivial
  have lm := partL_len hMap m
  have lt := partL_len hTab (nmsT l)
  have cm : ∀ (s : Store) (o : W), isWr s n i o → o.length ≤ 1000 → ACalls E 16 [.rp n 0 0 0, .agg [str [47], intV 0, intV 0, intV 0, intV 0, intV 0], bytes m] s fun a s' => a = .tup [] ∧ s' = wr s n i (o ++ partL hMap m) := fun s o h1 h2 => part_c hMap m lim0 hmm (map_ok m hmm) n i o (by omega) s h1
  have ct : ∀ (s : Store) (o : W), isWr s n i o → o.length ≤ 10000000 → ACalls E 16 [.rp n 0 0 0, .agg [str [47, 47], intV 0, intV 0, intV 0, intV 0, intV 0], bytes (nmsT l)] s fun a s' => a = .tup [] ∧ s' = wr s n i (o ++ partL hTab (nmsT l)) := fun s o h1 h2 => part_c hTab (nmsT l) lim1 (by omega) (tab_ok _ (by omega)) n i o (by omega) s h1
  refine ⟨fun hmt => ?_, fun hmf => ?_⟩
  · subst hmt
    refine (cm σ out hw ho).mono ?_
    rintro a s ⟨rfl, rfl⟩
    simp
    refine Pur.call (names_p l hl) ?_
    simp
    refine ⟨fun ht => ?_, fun ht => ?_⟩
    · have ht' : nmsT l ≠ [] := by rintro e; rw [e] at ht; simp at ht
      refine (ct _ _ (wr_is hw _) (by simp; omega)).mono ?_
      rintro a s ⟨rfl, rfl⟩
      simp [wr_wr]
      refine loop_x hmE (by kernel_rfl) (· + 1) 0 (fun j : Nat => [(31, intV j)]) (fun j : Nat => wr σ n i (out ++ (partL hMap m ++ partL hTab (nmsT l)) ++ memsL ((zipL l).take j))) (fun j : Nat => j ≤ l.length) (fun j => l.length - j) (by simp) (fun j hj => ⟨by simp, wr_bel hσ hw _, by simp [hn1]⟩) (by simp [memsL]) (by simp) fun j hj => ?_
      simp
      refine ⟨fun h => ?_, fun h => ?_⟩
      · obtain ⟨x, hx⟩ := get_ex h
        obtain ⟨f, hf⟩ := get_ex (l := nmsF l) (i := j) (by omega)
        have hzj : (zipL l)[j]? = some (x, f) := zip_get hx hf
        obtain ⟨hp1, hp2, hp3⟩ := hz _ (List.mem_of_getElem? hzj)
        simp at hp1 hp2
        have hxl := hl.2 x hp3
        have hml := memsL_len ((zipL l).take j) fun p hp => (hl.2 _ (hz p (List.mem_of_mem_take hp)).2.2).2.2.2.2.2
        have hml2 : ((zipL l).take j).length ≤ 1000 := by have := hl.1; simp; omega
        refine ⟨x, hx, f, hf, ?_⟩
        refine Pur.q (head_p x f) ?_
        simp
        have hdl := hxl.2.2.2.2.2
        have hsn := memsL_snoc hzj
        refine callD_of (part_c (hdrM x f) x.data (hdrM_lim hxl (by omega)) (by omega) hp1 n i (out ++ (partL hMap m ++ partL hTab (nmsT l)) ++ memsL ((zipL l).take j)) (by simp; omega) _ ⟨?_, ?_⟩) ?_
        · simp [wr_get, show ¬ n = σ.next by omega]
        · simp [wr_get, show ¬ i = σ.next by omega, hw.ne.symm]
        simp
        refine ⟨?_, wrap_succ h (by omega), by omega, by omega⟩
        rw [hsn]
        refine ⟨by simp, fun k hk => ?_⟩
        simp at hk
        rw [wr_get, wr_get]
        by_cases h1 : k = n
        · simp [h1]
        · by_cases h2 : k = i
          · simp [h2, hw.ne.symm]
          · simp [h1, h2, show ¬ k = σ.next by omega, wr_get]
      · rw [List.take_of_length_le (by omega)]
        refine Fin.same (by simp) ⟨rfl, ?_⟩
        simp [eachL, preMap, preTab, ht']
    · have ht' : nmsT l = [] := ht
      refine loop_x hmE (by kernel_rfl) (· + 1) 0 (fun j : Nat => [(31, intV j)]) (fun j : Nat => wr σ n i (out ++ partL hMap m ++ memsL ((zipL l).take j))) (fun j : Nat => j ≤ l.length) (fun j => l.length - j) (by simp) (fun j hj => ⟨by simp, wr_bel hσ hw _, by simp [hn1]⟩) (by simp [memsL]) (by simp) fun j hj => ?_
      simp
      refine ⟨fun h => ?_, fun h => ?_⟩
      · obtain ⟨x, hx⟩ := get_ex h
        obtain ⟨f, hf⟩ := get_ex (l := nmsF l) (i := j) (by omega)
        have hzj : (zipL l)[j]? = some (x, f) := zip_get hx hf
        obtain ⟨hp1, hp2, hp3⟩ := hz _ (List.mem_of_getElem? hzj)
        simp at hp1 hp2
        have hxl := hl.2 x hp3
        have hml := memsL_len ((zipL l).take j) fun p hp => (hl.2 _ (hz p (List.mem_of_mem_take hp)).2.2).2.2.2.2.2
        have hml2 : ((zipL l).take j).length ≤ 1000 := by have := hl.1; simp; omega
        refine ⟨x, hx, f, hf, ?_⟩
        refine Pur.q (head_p x f) ?_
        simp
        have hdl := hxl.2.2.2.2.2
        have hsn := memsL_snoc hzj
        refine callD_of (part_c (hdrM x f) x.data (hdrM_lim hxl (by omega)) (by omega) hp1 n i (out ++ partL hMap m ++ memsL ((zipL l).take j)) (by simp; omega) _ ⟨?_, ?_⟩) ?_
        · simp [wr_get, show ¬ n = σ.next by omega]
        · simp [wr_get, show ¬ i = σ.next by omega, hw.ne.symm]
        simp
        refine ⟨?_, wrap_succ h (by omega), by omega, by omega⟩
        rw [hsn]
        refine ⟨by simp, fun k hk => ?_⟩
        simp at hk
        rw [wr_get, wr_get]
        by_cases h1 : k = n
        · simp [h1]
        · by_cases h2 : k = i
          · simp [h2, hw.ne.symm]
          · simp [h1, h2, show ¬ k = σ.next by omega, wr_get]
      · rw [List.take_of_length_le (by omega)]
        refine Fin.same (by simp) ⟨rfl, ?_⟩
        simp [eachL, preMap, preTab, ht']
  · subst hmf
    refine Pur.call (names_p l hl) ?_
    simp
    refine ⟨fun ht => ?_, fun ht => ?_⟩
    · have ht' : nmsT l ≠ [] := by rintro e; rw [e] at ht; simp at ht
      refine (ct _ _ hw (by omega)).mono ?_
      rintro a s ⟨rfl, rfl⟩
      simp
      refine loop_x hmE (by kernel_rfl) (· + 1) 0 (fun j : Nat => [(31, intV j)]) (fun j : Nat => wr σ n i (out ++ partL hTab (nmsT l) ++ memsL ((zipL l).take j))) (fun j : Nat => j ≤ l.length) (fun j => l.length - j) (by simp) (fun j hj => ⟨by simp, wr_bel hσ hw _, by simp [hn1]⟩) (by simp [memsL]) (by simp) fun j hj => ?_
      simp
      refine ⟨fun h => ?_, fun h => ?_⟩
      · obtain ⟨x, hx⟩ := get_ex h
        obtain ⟨f, hf⟩ := get_ex (l := nmsF l) (i := j) (by omega)
        have hzj : (zipL l)[j]? = some (x, f) := zip_get hx hf
        obtain ⟨hp1, hp2, hp3⟩ := hz _ (List.mem_of_getElem? hzj)
        simp at hp1 hp2
        have hxl := hl.2 x hp3
        have hml := memsL_len ((zipL l).take j) fun p hp => (hl.2 _ (hz p (List.mem_of_mem_take hp)).2.2).2.2.2.2.2
        have hml2 : ((zipL l).take j).length ≤ 1000 := by have := hl.1; simp; omega
        refine ⟨x, hx, f, hf, ?_⟩
        refine Pur.q (head_p x f) ?_
        simp
        have hdl := hxl.2.2.2.2.2
        have hsn := memsL_snoc hzj
        refine callD_of (part_c (hdrM x f) x.data (hdrM_lim hxl (by omega)) (by omega) hp1 n i (out ++ partL hTab (nmsT l) ++ memsL ((zipL l).take j)) (by simp; omega) _ ⟨?_, ?_⟩) ?_
        · simp [wr_get, show ¬ n = σ.next by omega]
        · simp [wr_get, show ¬ i = σ.next by omega, hw.ne.symm]
        simp
        refine ⟨?_, wrap_succ h (by omega), by omega, by omega⟩
        rw [hsn]
        refine ⟨by simp, fun k hk => ?_⟩
        simp at hk
        rw [wr_get, wr_get]
        by_cases h1 : k = n
        · simp [h1]
        · by_cases h2 : k = i
          · simp [h2, hw.ne.symm]
          · simp [h1, h2, show ¬ k = σ.next by omega, wr_get]
      · rw [List.take_of_length_le (by omega)]
        refine Fin.same (by simp) ⟨rfl, ?_⟩
        simp [eachL, preMap, preTab, ht']
    · have ht' : nmsT l = [] := ht
      refine loop_x hmE (by kernel_rfl) (· + 1) 0 (fun j : Nat => [(31, intV j)]) (fun j : Nat => wr σ n i (out ++ memsL ((zipL l).take j))) (fun j : Nat => j ≤ l.length) (fun j => l.length - j) (by simp) (fun j hj => ⟨by simp, wr_bel hσ hw _, by simp [hn1]⟩) (by simp [memsL, wr_same hw]) (by simp) fun j hj => ?_
      simp
      refine ⟨fun h => ?_, fun h => ?_⟩
      · obtain ⟨x, hx⟩ := get_ex h
        obtain ⟨f, hf⟩ := get_ex (l := nmsF l) (i := j) (by omega)
        have hzj : (zipL l)[j]? = some (x, f) := zip_get hx hf
        obtain ⟨hp1, hp2, hp3⟩ := hz _ (List.mem_of_getElem? hzj)
        simp at hp1 hp2
        have hxl := hl.2 x hp3
        have hml := memsL_len ((zipL l).take j) fun p hp => (hl.2 _ (hz p (List.mem_of_mem_take hp)).2.2).2.2.2.2.2
        have hml2 : ((zipL l).take j).length ≤ 1000 := by have := hl.1; simp; omega
        refine ⟨x, hx, f, hf, ?_⟩
        refine Pur.q (head_p x f) ?_
        simp
        have hdl := hxl.2.2.2.2.2
        have hsn := memsL_snoc hzj
        refine callD_of (part_c (hdrM x f) x.data (hdrM_lim hxl (by omega)) (by omega) hp1 n i (out ++ memsL ((zipL l).take j)) (by simp; omega) _ ⟨?_, ?_⟩) ?_
        · simp [wr_get, show ¬ n = σ.next by omega]
        · simp [wr_get, show ¬ i = σ.next by omega, hw.ne.symm]
        simp
        refine ⟨?_, wrap_succ h (by omega), by omega, by omega⟩
        rw [hsn]
        refine ⟨by simp, fun k hk => ?_⟩
        simp at hk
        rw [wr_get, wr_get]
        by_cases h1 : k = n
        · simp [h1]
        · by_cases h2 : k = i
          · simp [h2, hw.ne.symm]
          · simp [h1, h2, show ¬ k = σ.next by omega, wr_get]
      · rw [List.take_of_length_le (by omega)]
        refine Fin.same (by simp) ⟨rfl, ?_⟩
        simp [eachL, preMap, preTab, ht']
end Go.Proofs.YtfonamgmfljhlaaDoor
