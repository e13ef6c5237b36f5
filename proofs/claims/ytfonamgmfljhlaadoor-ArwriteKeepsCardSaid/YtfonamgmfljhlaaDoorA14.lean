/- ArwriteKeeps: the archive as the caller's own bytes, written to, and written again. No condition. -/
import Derived.Test.YtfonamgmfljhlaaDoorA11
import Derived.Test.YtfonamgmfljhlaaDoorGD
set_option linter.unusedVariables false
set_option linter.unusedSimpArgs false
set_option linter.unnecessarySimpa false
namespace Go.Proofs.YtfonamgmfljhlaaDoor
open Go Go.AW
set_option maxRecDepth 100000
set_option maxHeartbeats 8000000

theorem Write_raw (hm : Bool) (m : W) (l : List M) (hmm : m.length ≤ 2000000) (hl : fewM l) (h0 : (fitsI l).2 = 0) (σ : Store) :
    ACalls E 7 [boolV hm, bytes m, memsV l] σ fun r s => ∃ i es vs, r = .tup (.lg i es :: vs) ∧ σ.next ≤ i ∧ s.get i = some (.log 5 es.length) ∧ Below σ s ∧ (∀ e ∈ es, ∃ c, e = .c c) ∧ (∀ e ∈ vs, ∃ c, e = .c c) ∧ es = (outL hm m l).map byteV ∧ vs = [intV 0] := by
  refine ACalls.enterA [2000019, 2000020] Tryd.func7 rfl Tryd.ntmps7 Tryd.results7 hmE (by kernel_rfl) (by simp) fun hσ => ?_
  conv => arg 5; cbv
  simp
  refine Pur.call (AFits_p l hl) ?_
  simp [h0]
  have he := each_c hm m l hmm hl h0 _ _ magic (by simp [magic]) _ (isWr_new σ)
  simp [magic] at he
  refine he.mono ?_
  rintro a s ⟨rfl, rfl⟩
  simp [wr_get, wrV]
  refine Fin.same (by simp) ⟨σ.next, (outL hm m l).map byteV, [intV 0], by simp [outL, h0, magic], Nat.le_refl _, by simp [wr_get, outL, h0, magic], ⟨by simp, fun j hj => ?_⟩, by simp, by simp, rfl, rfl⟩
  rw [wr_get]
  simp [show ¬ j = σ.next by omega, show ¬ j = σ.next + 1 by omega]
theorem Write_own (hm : Bool) (m : W) (l : List M) (hmm : m.length ≤ 2000000) (hl : fewM l) (h0 : (fitsI l).2 = 0) (σ : Store) (hp : PlainS σ) :
    ACalls E 7 [boolV hm, bytes m, memsV l] σ fun r s => r = .tup [.rs σ.next 0 0 (outL hm m l).length, intV 0] ∧ s = σ.alloc (.arr 5 0 ((outL hm m l).map byteV)) := by
  refine (ACalls.own (Q := fun es vs => es = (outL hm m l).map byteV ∧ vs = [intV 0]) hp (Write_raw hm m l hmm hl h0 σ)).mono ?_
  rintro r s ⟨es, vs, rfl, rfl, rfl, rfl⟩
  exact ⟨by simp, rfl⟩
/-- A list copied member by member: the members are the same. -/
theorem snoc_mem {l : List M} {i : Nat} {a : M} (h : l[i]? = some a) : List.take i (l.map memV) ++ [memV a] = List.take (i + 1) (l.map memV) := take_snoc h
theorem Copy_p (l : List M) (hl : fewM l) : Pur E 6 [memsV l] (memsV l) := by
  refine Pur.enter [3000003] Tryd.func6 rfl Tryd.ntmps6 Tryd.results6 hmE (by kernel_rfl) (by simp) (by simp) fun σ hσ => ?_
  conv => arg 5; cbv
  simp
  refine loop_x hmE (by kernel_rfl) (· + 1) 0 (fun i : Nat => [(4, intV i), (3, .lg σ.next ((l.map memV).take i))]) (fun i : Nat => σ.alloc (.log 37 i)) (fun i : Nat => i ≤ l.length) (fun i => l.length - i) (by simp) (fun i hi => by simp [hσ]) (by simp) (by simp) fun i hi => ?_
  simp [Nat.min_eq_left hi]
  refine ⟨fun h => ?_, fun h => List.take_of_length_le (by simpa using h)⟩
  obtain ⟨a, ha⟩ := get_ex h
  have h1 := hl.1
  have h2 := (hl.2 a (List.mem_of_getElem? ha)).2.2.2.2.2
  have h3 := snoc_mem ha
  refine ⟨a, ha, by omega, by omega, ?_⟩
  split
  · rename_i h0
    exact ⟨by omega, by omega, ⟨by simpa [h0] using h3, wrap_succ h (by omega)⟩, by omega, by omega⟩
  · exact ⟨by omega, by omega, ⟨by simpa using h3, wrap_succ h (by omega)⟩, by omega, by omega⟩
theorem SameMember_p (x : M) (hx : x.data.length ≤ 1000000000) : Pur E 21 [memV x, memV x] (boolV true) := by
  have hS := Same_p x.data x.data (by omega)
  simp at hS
  refine Pur.enter [] Tryd.func21 rfl Tryd.ntmps21 Tryd.results21 hmE (by kernel_rfl) (by simp) (by simp) fun σ hσ => ?_
  conv => arg 5; cbv
  simp
  refine Pur.call hS ?_
  simp
theorem SameMembers_p (a : List M) (ha : fewM a) : Pur E 9 [memsV a, memsV a] (boolV true) := by
  refine Pur.enter [6000021] Tryd.func9 rfl Tryd.ntmps9 Tryd.results9 hmE (by kernel_rfl) (by simp) (by simp) fun σ hσ => ?_
  conv => arg 5; cbv
  simp
  refine loop_n hmE (by kernel_rfl) a.length (fun i => [(5, intV i)]) (fun i => i ≤ a.length) (by simp) hσ (by simp) (by simp) (by simp) fun i hi => ?_
  simp
  intro h
  have hal := ha.1
  obtain ⟨x, hx⟩ := get_ex h
  have hxl := (ha.2 x (List.mem_of_getElem? hx)).2.2.2.2.2
  have hs := SameMember_p x (by omega)
  simp at hs
  refine ⟨x, hx, x, hx, ?_⟩
  refine Pur.q hs ?_
  simp
  exact ⟨wrap_succ h (by omega), h, by omega⟩
/-- The first k bytes are one more. -/
def incL (L : W) (k : Nat) : W := (L.take k).map (· + 1) ++ L.drop k
theorem incL_len (L : W) (k : Nat) : (incL L k).length = L.length := by simp [incL]; omega
theorem incL_get {L : W} {k : Nat} {x : UInt8} (h : L[k]? = some x) : (incL L k)[k]? = some x := by
  have hk := (List.getElem?_eq_some_iff.1 h).1
  rw [incL, List.getElem?_append_right (by simp; omega)]
  simp [show min k L.length = k by omega, h]
theorem incL_set {L : W} {k : Nat} {x : UInt8} (h : L[k]? = some x) : (incL L k).set k (x + 1) = incL L (k + 1) := by
  have hk := (List.getElem?_eq_some_iff.1 h).1
  have hd : L.drop k = x :: L.drop (k + 1) := by
    rw [List.drop_eq_getElem_cons hk]
    congr 1
    exact (List.getElem?_eq_some_iff.1 h).2
  rw [incL, incL, List.take_add_one, h, hd, List.set_append_right _ _ (by simp; omega)]
  simp [show k - min k L.length = 0 by omega]
theorem byte_inc (x : UInt8) : IntKind.u8.wrap ((x.toNat : Int) + 1) = ((x + 1).toNat : Int) := by
  rw [IntKind.wrap_u8]
  simp
theorem plain0 : PlainS σ0 := fun i o h => by cases h
theorem KeepsL_c (m : W) (l : List M) (hll : l.length ≤ 9223372036854775807) (hb : inR l) : ACalls E 3 [bytes m, memsV l] σ0 fun r _ => r = boolV true := by
  refine ACalls.enterA [7000032] Tryd.func3 rfl Tryd.ntmps3 Tryd.results3 hmE (by kernel_rfl) (by simp) fun hσ => ?_
  conv => arg 5; cbv
  simp
  refine Pur.call awake_p ?_
  simp
  refine Pur.call (Few_p l hll) ?_
  simp
  refine ⟨fun hf => ?_, fun hf => ⟨fun hmm => ?_, fun hmm => ?_⟩⟩
  · refine Pur.call awake_p ?_
    simp
    exact Fin.same (by simp) rfl
  · refine Pur.call awake_p ?_
    simp
    exact Fin.same (by simp) rfl
  obtain ⟨hl, _⟩ := few_of hf hb
  have hm2 : m.length ≤ 2000000 := by omega
  have hC := Copy_p l hl
  simp at hC
  refine Pur.call hC ?_
  simp
  refine ⟨by omega, by omega, ?_⟩
  have hW := Write_p true m l hm2 hl
  have hr := rWrite_p true m l hm2 hl
  have hM := SameMembers_p l hl
  have hSl : (outL true m l).length ≤ 9223372036854775807 := by
    have := outL_len (hm := true) hm2 hl
    omega
  have hS := Same_p (outL true m l) (outL true m l) (by omega)
  have hSm := Same_p m m (by omega)
  simp at hW hr hM hS hSm
  by_cases h0 : (fitsI l).2 = 0
  · have hO := Write_own true m l hm2 hl h0 σ0 plain0
    simp at hO
    refine hO.mono ?_
    rintro r s ⟨rfl, rfl⟩
    simp
    refine loop_x hmE (by kernel_rfl) (· + 1) 0 (fun k : Nat => [(9, intV k)]) (fun k : Nat => σ0.alloc (.arr 5 0 ((incL (outL true m l) k).map byteV))) (fun k : Nat => k ≤ (outL true m l).length) (fun k => (outL true m l).length - k) (by simp) (fun k hk => ⟨by simp, hσ.alloc_arr (by simp), by simp⟩) (by simp [incL]) (by simp) fun k hk => ?_
    by_cases h : k < (outL true m l).length
    · obtain ⟨x, hx⟩ := get_ex h
      have hg := incL_get hx
      have hs : ((incL (outL true m l) k).map byteV).set k (.c (.int .u8 ((x + 1).toNat : Int))) = (incL (outL true m l) (k + 1)).map byteV := by
        rw [← incL_set hx, List.map_set]; rfl
      simp [h, hg, byte_inc]
      simp at hs
      rw [hs]
      exact ⟨.refl _, wrap_succ h (by omega), by omega, by omega⟩
    · simp [h]
      refine Pur.call hW ?_
      simp
      refine Pur.call hr ?_
      simp
      refine Pur.call hM ?_
      simp
      refine Pur.call hSm ?_
      simp
      refine Pur.call hS ?_
      simp
      exact Fin.same (by simp) rfl
  · have hc : outL true m l = [] := by rw [outL, if_neg h0]
    rw [hc] at hW hr hS
    simp at hW hr hS
    refine Pur.call hW ?_
    simp
    refine loop_n hmE (by kernel_rfl) 0 (fun i => [(9, intV i)]) (fun i => i = 0) (by simp) hσ (by simp) (by simp) (by simp) fun i hi => ?_
    subst hi
    simp
    refine Pur.call hW ?_
    simp
    refine Pur.call hr ?_
    simp
    refine Pur.call hM ?_
    simp
    refine Pur.call hSm ?_
    simp
    refine Pur.call hS ?_
    simp
    exact Fin.same (by simp) rfl
end Go.Proofs.YtfonamgmfljhlaaDoor
