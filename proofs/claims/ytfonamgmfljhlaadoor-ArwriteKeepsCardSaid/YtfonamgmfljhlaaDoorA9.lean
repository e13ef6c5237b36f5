/- What is written, by the program and by the reference. No condition. -/
import Derived.Test.YtfonamgmfljhlaaDoorA8
set_option linter.unusedVariables false
set_option linter.unusedSimpArgs false
set_option linter.unnecessarySimpa false
namespace Go.Proofs.YtfonamgmfljhlaaDoor
open Go Go.AW
set_option maxRecDepth 100000
set_option maxHeartbeats 8000000

def outL (hm : Bool) (m : W) (l : List M) : W := if (fitsI l).2 = 0 then magic ++ eachL hm m l else []
def outV (hm : Bool) (m : W) (l : List M) : AV := .tup [bytes (outL hm m l), intV (fitsI l).2]
attribute [simp] outV
theorem isWr_new (σ : Store) : isWr ((σ.alloc (.log 5 8)).alloc (.arr 45 0 [.agg [.lg σ.next (magic.map byteV), intV 0]])) (σ.next + 1) σ.next magic := ⟨by simp [wrV], by simp [magic]⟩
theorem Write_p (hm : Bool) (m : W) (l : List M) (hmm : m.length ≤ 2000000) (hl : fewM l) : Pur E 7 [boolV hm, bytes m, memsV l] (outV hm m l) := by
  refine Pur.enter [2000019, 2000020] Tryd.func7 rfl Tryd.ntmps7 Tryd.results7 hmE (by kernel_rfl) (by simp) (by simp) fun σ hσ => ?_
  conv => arg 5; cbv
  simp
  refine Pur.call (AFits_p l hl) ?_
  simp
  refine ⟨fun h0 => ?_, fun h0 => ?_⟩
  · simp [outL, h0]
  · have he := each_c hm m l hmm hl h0 _ _ magic (by simp [magic]) _ (isWr_new σ)
    simp [magic] at he
    refine he.mono ?_
    rintro a s ⟨rfl, rfl⟩
    simp [wr_get, wrV]
    refine ⟨⟨by simp [outL, h0, magic], h0.symm⟩, by simp, fun j hj => ?_⟩
    rw [wr_get]
    simp [show ¬ j = σ.next by omega, show ¬ j = σ.next + 1 by omega]
/-- The positions. -/
def offsL (base : Nat) (z : List (M × W)) (j : Nat) : List Int := (List.range j).map fun i => ((base + (memsL (z.take i)).length : Nat) : Int)
theorem offsL_snoc (base : Nat) (z : List (M × W)) (j : Nat) : offsL base z (j + 1) = offsL base z j ++ [((base + (memsL (z.take j)).length : Nat) : Int)] := by simp [offsL, List.range_succ]
@[simp] theorem offsL_len (base : Nat) (z : List (M × W)) (j : Nat) : (offsL base z j).length = j := by simp [offsL]
def baseL (hm : Bool) (m : W) (l : List M) : W := magic ++ (preMap hm m ++ preTab (nmsT l))
def refO (hm : Bool) (m : W) (l : List M) : List Int := if (fitsI l).2 = 0 then offsL (baseL hm m l).length (zipL l) l.length else []
def refV (hm : Bool) (m : W) (l : List M) : AV := .tup [bytes (outL hm m l), ints (refO hm m l), intV (fitsI l).2]
attribute [simp] refV
theorem rWrite_p (hm : Bool) (m : W) (l : List M) (hmm : m.length ≤ 2000000) (hl : fewM l) : Pur E 8 [boolV hm, bytes m, memsV l] (refV hm m l) := by
  refine Pur.enter [3000011, 3000017] Tryd.func8 rfl Tryd.ntmps8 Tryd.results8 hmE (by kernel_rfl) (by simp) (by simp) fun σ hσ => ?_
  conv => arg 5; cbv
  simp
  refine Pur.call (rAFits_p l hl) ?_
  simp
  refine ⟨fun h0 => by simp [outL, refO, h0], fun h0 => ?_⟩
  have hll := hl.1
  have hT : (nmsT l).length ≤ 1002000 := by
    have h1 := all_valid h0
    have h2 := bld_len _ (fewN_of hl).2
    rw [nmsT, bldT, if_pos h1]
    simp at h2
    omega
  have hF := nmsF_len hl h0
  have hz := zip_ok hl h0
  have hzl : (zipL l).length = l.length := by simp [zipL, hF]
  have lim0 : hMap.lim := by simp [H.lim, hMap]
  have lim1 : hTab.lim := by simp [H.lim, hTab]
  have lm := partL_len hMap m
  have lt := partL_len hTab (nmsT l)
  have cm : Pur E 20 [.agg [str [47], intV 0, intV 0, intV 0, intV 0, intV 0], bytes m] (bytes (partL hMap m)) := rpart_p hMap m lim0 hmm
  have ct : Pur E 20 [.agg [str [47, 47], intV 0, intV 0, intV 0, intV 0, intV 0], bytes (nmsT l)] (bytes (partL hTab (nmsT l))) := rpart_p hTab (nmsT l) lim1 (by omega)
  refine loop_x hmE (by kernel_rfl) (· + 1) 0 (fun i : Nat => [(12, intV i), (11, .lg σ.next (((l.take i).map M.name).map str))]) (fun i : Nat => σ.alloc (.log 9 i)) (fun i : Nat => i ≤ l.length) (fun i => l.length - i) (by simp) (fun i hi => ⟨by simp, by simp [hσ], by simp⟩) (by simp) (by simp) fun i hi => ?_
  simp [Nat.min_eq_left hi]
  refine ⟨fun h => ?_, fun h => ?_⟩
  · obtain ⟨x, hx⟩ := get_ex h
    refine ⟨x, hx, by omega, by omega, ⟨take_snoc (f := fun x : M => AV.c (.string (bs x.name))) hx, wrap_succ h (by omega)⟩, by omega, by omega⟩
  · have hil : i = l.length := by omega
    subst hil
    rw [List.take_of_length_le (by simp)]
    have hb := rBuild_p (l.map M.name) (fewN_of hl)
    simp at hb
    refine Pur.call hb ?_
    simp
    refine Pur.call Magic_p ?_
    simp
    have e1 : bldT (l.map M.name) = nmsT l := rfl
    have e2 : bldF (l.map M.name) = nmsF l := rfl
    rw [e1, e2]
    refine ⟨fun hmt => ?_, fun hmf => ?_⟩
    · subst hmt
      refine Pur.call cm ?_
      simp
      refine Pur.call (Add_p magic (partL hMap m) (by simp [magic]) (by omega)) ?_
      simp
      refine ⟨fun ht => ?_, fun ht => ?_⟩
      · have ht' : nmsT l ≠ [] := by rintro e; rw [e] at ht; simp at ht
        refine Pur.call ct ?_
        simp
        have ha := Add_p (magic ++ partL hMap m) (partL hTab (nmsT l)) (by simp [magic]; omega) (by omega)
        simp at ha
        refine Pur.call ha ?_
        simp
        refine loop_x hmE (by kernel_rfl) (· + 1) 0 (fun j : Nat => [(18, intV j), (16, bytes ((magic ++ partL hMap m) ++ partL hTab (nmsT l) ++ memsL ((zipL l).take j))), (17, .lg (σ.next + 1) ((offsL ((magic ++ partL hMap m) ++ partL hTab (nmsT l)).length (zipL l) j).map intV))]) (fun j : Nat => ((σ.alloc (.log 9 l.length)).alloc (.log 3 j))) (fun j : Nat => j ≤ l.length) (fun j => l.length - j) (by simp) (fun j hj => ⟨by simp, by simp [hσ], ?_⟩) (by simp) (by simp [memsL, offsL]) fun j hj => ?_
        · have hbb := bel_bytes (σ.next + 2) ((magic ++ partL hMap m) ++ partL hTab (nmsT l) ++ memsL ((zipL l).take j))
          simp at hbb
          simp
          try exact hbb
        simp
        refine ⟨fun h => ?_, fun h => ?_⟩
        · obtain ⟨x, hx⟩ := get_ex h
          obtain ⟨f, hf⟩ := get_ex (l := nmsF l) (i := j) (by omega)
          have hzj : (zipL l)[j]? = some (x, f) := zip_get hx hf
          obtain ⟨hp1, hp2, hp3⟩ := hz _ (List.mem_of_getElem? hzj)
          simp at hp1 hp2
          have hxl := hl.2 x hp3
          have hml := memsL_len ((zipL l).take j) fun p hp => (hl.2 _ (hz p (List.mem_of_mem_take hp)).2.2).2.2.2.2.2
          have hml2 : ((zipL l).take j).length ≤ 1000 := by have := hl.1; simp; omega
          have hdl := hxl.2.2.2.2.2
          have hsn := memsL_snoc hzj
          have hpl := partL_len (hdrM x f) x.data
          have cp : Pur E 20 [.agg [str f, intV x.t, intV x.u, intV x.g, intV x.m, intV 0], bytes x.data] (bytes (partL (hdrM x f) x.data)) := rpart_p ⟨f, x.t, x.u, x.g, x.m, 0⟩ x.data ⟨hxl.1, hxl.2.1, hxl.2.2.1, hxl.2.2.2.1, by show (0 : Int) < _; omega, by show f.length ≤ _; omega⟩ (by omega)
          have ca := Add_p ((magic ++ partL hMap m) ++ partL hTab (nmsT l) ++ memsL ((zipL l).take j)) (partL (hdrM x f) x.data) (by simp [magic]; omega) (by omega)
          simp at ca
          refine ⟨by omega, by omega, f, hf, x, hx, x, hx, x, hx, x, hx, x, hx, ?_⟩
          refine Pur.d cp ?_
          simp
          refine Pur.d ca ?_
          rw [hsn, offsL_snoc]
          simp
          first | exact ⟨wrap_succ h (by omega), by omega, by omega⟩ | exact ⟨⟨by omega, wrap_succ h (by omega)⟩, by omega, by omega⟩
        · rw [List.take_of_length_le (by omega)]
          have hjl : j = l.length := by omega
          subst hjl
          simp [outL, refO, baseL, eachL, preMap, preTab, ht', h0]
      · have ht' : nmsT l = [] := ht
        refine loop_x hmE (by kernel_rfl) (· + 1) 0 (fun j : Nat => [(18, intV j), (16, bytes (magic ++ partL hMap m ++ memsL ((zipL l).take j))), (17, .lg (σ.next + 1) ((offsL (magic ++ partL hMap m).length (zipL l) j).map intV))]) (fun j : Nat => ((σ.alloc (.log 9 l.length)).alloc (.log 3 j))) (fun j : Nat => j ≤ l.length) (fun j => l.length - j) (by simp) (fun j hj => ⟨by simp, by simp [hσ], ?_⟩) (by simp) (by simp [memsL, offsL]) fun j hj => ?_
        · have hbb := bel_bytes (σ.next + 2) (magic ++ partL hMap m ++ memsL ((zipL l).take j))
          simp at hbb
          simp
          try exact hbb
        simp
        refine ⟨fun h => ?_, fun h => ?_⟩
        · obtain ⟨x, hx⟩ := get_ex h
          obtain ⟨f, hf⟩ := get_ex (l := nmsF l) (i := j) (by omega)
          have hzj : (zipL l)[j]? = some (x, f) := zip_get hx hf
          obtain ⟨hp1, hp2, hp3⟩ := hz _ (List.mem_of_getElem? hzj)
          simp at hp1 hp2
          have hxl := hl.2 x hp3
          have hml := memsL_len ((zipL l).take j) fun p hp => (hl.2 _ (hz p (List.mem_of_mem_take hp)).2.2).2.2.2.2.2
          have hml2 : ((zipL l).take j).length ≤ 1000 := by have := hl.1; simp; omega
          have hdl := hxl.2.2.2.2.2
          have hsn := memsL_snoc hzj
          have hpl := partL_len (hdrM x f) x.data
          have cp : Pur E 20 [.agg [str f, intV x.t, intV x.u, intV x.g, intV x.m, intV 0], bytes x.data] (bytes (partL (hdrM x f) x.data)) := rpart_p ⟨f, x.t, x.u, x.g, x.m, 0⟩ x.data ⟨hxl.1, hxl.2.1, hxl.2.2.1, hxl.2.2.2.1, by show (0 : Int) < _; omega, by show f.length ≤ _; omega⟩ (by omega)
          have ca := Add_p (magic ++ partL hMap m ++ memsL ((zipL l).take j)) (partL (hdrM x f) x.data) (by simp [magic]; omega) (by omega)
          simp at ca
          refine ⟨by omega, by omega, f, hf, x, hx, x, hx, x, hx, x, hx, x, hx, ?_⟩
          refine Pur.d cp ?_
          simp
          refine Pur.d ca ?_
          rw [hsn, offsL_snoc]
          simp
          first | exact ⟨wrap_succ h (by omega), by omega, by omega⟩ | exact ⟨⟨by omega, wrap_succ h (by omega)⟩, by omega, by omega⟩
        · rw [List.take_of_length_le (by omega)]
          have hjl : j = l.length := by omega
          subst hjl
          simp [outL, refO, baseL, eachL, preMap, preTab, ht', h0]
    · subst hmf
      refine ⟨fun ht => ?_, fun ht => ?_⟩
      · have ht' : nmsT l ≠ [] := by rintro e; rw [e] at ht; simp at ht
        refine Pur.call ct ?_
        simp
        refine Pur.call (Add_p magic (partL hTab (nmsT l)) (by simp [magic]) (by omega)) ?_
        simp
        refine loop_x hmE (by kernel_rfl) (· + 1) 0 (fun j : Nat => [(18, intV j), (16, bytes (magic ++ partL hTab (nmsT l) ++ memsL ((zipL l).take j))), (17, .lg (σ.next + 1) ((offsL (magic ++ partL hTab (nmsT l)).length (zipL l) j).map intV))]) (fun j : Nat => ((σ.alloc (.log 9 l.length)).alloc (.log 3 j))) (fun j : Nat => j ≤ l.length) (fun j => l.length - j) (by simp) (fun j hj => ⟨by simp, by simp [hσ], ?_⟩) (by simp) (by simp [memsL, offsL]) fun j hj => ?_
        · have hbb := bel_bytes (σ.next + 2) (magic ++ partL hTab (nmsT l) ++ memsL ((zipL l).take j))
          simp at hbb
          simp
          try exact hbb
        simp
        refine ⟨fun h => ?_, fun h => ?_⟩
        · obtain ⟨x, hx⟩ := get_ex h
          obtain ⟨f, hf⟩ := get_ex (l := nmsF l) (i := j) (by omega)
          have hzj : (zipL l)[j]? = some (x, f) := zip_get hx hf
          obtain ⟨hp1, hp2, hp3⟩ := hz _ (List.mem_of_getElem? hzj)
          simp at hp1 hp2
          have hxl := hl.2 x hp3
          have hml := memsL_len ((zipL l).take j) fun p hp => (hl.2 _ (hz p (List.mem_of_mem_take hp)).2.2).2.2.2.2.2
          have hml2 : ((zipL l).take j).length ≤ 1000 := by have := hl.1; simp; omega
          have hdl := hxl.2.2.2.2.2
          have hsn := memsL_snoc hzj
          have hpl := partL_len (hdrM x f) x.data
          have cp : Pur E 20 [.agg [str f, intV x.t, intV x.u, intV x.g, intV x.m, intV 0], bytes x.data] (bytes (partL (hdrM x f) x.data)) := rpart_p ⟨f, x.t, x.u, x.g, x.m, 0⟩ x.data ⟨hxl.1, hxl.2.1, hxl.2.2.1, hxl.2.2.2.1, by show (0 : Int) < _; omega, by show f.length ≤ _; omega⟩ (by omega)
          have ca := Add_p (magic ++ partL hTab (nmsT l) ++ memsL ((zipL l).take j)) (partL (hdrM x f) x.data) (by simp [magic]; omega) (by omega)
          simp at ca
          refine ⟨by omega, by omega, f, hf, x, hx, x, hx, x, hx, x, hx, x, hx, ?_⟩
          refine Pur.d cp ?_
          simp
          refine Pur.d ca ?_
          rw [hsn, offsL_snoc]
          simp
          first | exact ⟨wrap_succ h (by omega), by omega, by omega⟩ | exact ⟨⟨by omega, wrap_succ h (by omega)⟩, by omega, by omega⟩
        · rw [List.take_of_length_le (by omega)]
          have hjl : j = l.length := by omega
          subst hjl
          simp [outL, refO, baseL, eachL, preMap, preTab, ht', h0]
      · have ht' : nmsT l = [] := ht
        refine loop_x hmE (by kernel_rfl) (· + 1) 0 (fun j : Nat => [(18, intV j), (16, bytes (magic ++ memsL ((zipL l).take j))), (17, .lg (σ.next + 1) ((offsL (magic).length (zipL l) j).map intV))]) (fun j : Nat => ((σ.alloc (.log 9 l.length)).alloc (.log 3 j))) (fun j : Nat => j ≤ l.length) (fun j => l.length - j) (by simp) (fun j hj => ⟨by simp, by simp [hσ], ?_⟩) (by simp) (by simp [memsL, offsL]) fun j hj => ?_
        · have hbb := bel_bytes (σ.next + 2) (magic ++ memsL ((zipL l).take j))
          simp at hbb
          simp
          try exact hbb
        simp
        refine ⟨fun h => ?_, fun h => ?_⟩
        · obtain ⟨x, hx⟩ := get_ex h
          obtain ⟨f, hf⟩ := get_ex (l := nmsF l) (i := j) (by omega)
          have hzj : (zipL l)[j]? = some (x, f) := zip_get hx hf
          obtain ⟨hp1, hp2, hp3⟩ := hz _ (List.mem_of_getElem? hzj)
          simp at hp1 hp2
          have hxl := hl.2 x hp3
          have hml := memsL_len ((zipL l).take j) fun p hp => (hl.2 _ (hz p (List.mem_of_mem_take hp)).2.2).2.2.2.2.2
          have hml2 : ((zipL l).take j).length ≤ 1000 := by have := hl.1; simp; omega
          have hdl := hxl.2.2.2.2.2
          have hsn := memsL_snoc hzj
          have hpl := partL_len (hdrM x f) x.data
          have cp : Pur E 20 [.agg [str f, intV x.t, intV x.u, intV x.g, intV x.m, intV 0], bytes x.data] (bytes (partL (hdrM x f) x.data)) := rpart_p ⟨f, x.t, x.u, x.g, x.m, 0⟩ x.data ⟨hxl.1, hxl.2.1, hxl.2.2.1, hxl.2.2.2.1, by show (0 : Int) < _; omega, by show f.length ≤ _; omega⟩ (by omega)
          have ca := Add_p (magic ++ memsL ((zipL l).take j)) (partL (hdrM x f) x.data) (by simp [magic]; omega) (by omega)
          simp at ca
          refine ⟨by omega, by omega, f, hf, x, hx, x, hx, x, hx, x, hx, x, hx, ?_⟩
          refine Pur.d cp ?_
          simp
          refine Pur.d ca ?_
          rw [hsn, offsL_snoc]
          simp
          first | exact ⟨wrap_succ h (by omega), by omega, by omega⟩ | exact ⟨⟨by omega, wrap_succ h (by omega)⟩, by omega, by omega⟩
        · rw [List.take_of_length_le (by omega)]
          have hjl : j = l.length := by omega
          subst hjl
          simp [outL, refO, baseL, eachL, preMap, preTab, ht', h0]
end Go.Proofs.YtfonamgmfljhlaaDoor
