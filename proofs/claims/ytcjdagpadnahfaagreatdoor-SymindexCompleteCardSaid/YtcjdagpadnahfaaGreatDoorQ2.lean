/- Maps of archives decoded: what was encoded. No condition. -/
import Derived.Test.YtcjdagpadnahfaaGreatDoorQ1
import Derived.Test.YtcjdagpadnahfaaGreatDoorB7
set_option linter.unusedVariables false
set_option linter.unusedSimpArgs false
set_option linter.unnecessarySimpa false
namespace Go.Proofs.YtcjdagpadnahfaaGreatDoor
open Go Go.AW
set_option maxRecDepth 100000
set_option maxHeartbeats 8000000

theorem num_put (n : Nat) (h : n < 4294967296) (r : W) : num4 (put4 n ++ r) = n := by
  simp only [num4, put4]
  simp [List.getD]
  omega
theorem mapOf_len7 (l : List En) : (mapOf l).length = 4 * l.length := by
  induction l with
  | nil => rfl
  | cons e l ih => simp [mapOf] at ih ⊢; omega
theorem mapOf_drop : ∀ (l : List En) (i : Nat) (r : W) (e : En), l[i]? = some e → ∃ r', (mapOf l ++ r).drop (4 * i) = put4 e.off ++ r'
  | [], i, r, e, h => by simp at h
  | x :: l, 0, r, e, h => by simp at h; subst h; exact ⟨mapOf l ++ r, by simp [mapOf]⟩
  | x :: l, i + 1, r, e, h => by
    obtain ⟨r', h'⟩ := mapOf_drop l i r e (by simpa using h)
    refine ⟨r', ?_⟩
    have e1 : mapOf (x :: l) ++ r = put4 x.off ++ (mapOf l ++ r) := by simp [mapOf]
    rw [e1, show 4 * (i + 1) = 4 + 4 * i by omega, ← List.drop_drop]
    rw [show (put4 x.off ++ (mapOf l ++ r)).drop 4 = mapOf l ++ r from List.drop_left' (by rfl)]
    exact h'
theorem index_name : ∀ (n : W) (r : W), (∀ c ∈ n, c ≠ 0) → Lib.indexByte (n ++ 0 :: r) 0 = (n.length : Int)
  | [], r, _ => by simp [Lib.indexByte]
  | c :: n, r, h => by
    have hc := h c (by simp)
    have ih := index_name n r fun c hc => h c (by simp [hc])
    simp [Lib.indexByte, hc, ih]
    try omega
theorem nm_name {e : En} (h : entOk e = true) (r : W) : nmE (e.name ++ 0 :: r) = some e.name.length := by
  simp [entOk] at h
  have hi := index_name e.name r (fun c hc h0 => by subst h0; exact h.1.2 hc)
  have hpos : 0 < e.name.length := List.length_pos_iff.2 (by simpa using h.1.1)
  rw [nmE, hi, if_pos (by omega)]
  rfl
theorem Decode7_p (l : List En) (hok : l.all entOk = true) (hl : l.length ≤ 10000000) (hn : (mapNm l).length ≤ 100000000) : Pur E 30 [bytes (mapB l)] (.tup [entsV l, intV 0]) := by
  have hB : (mapB l).length = 4 + 4 * l.length + (mapNm l).length := by simp [mapB, mapOf_len7]; omega
  have hG := get7_p (mapB l) (by omega)
  rw [show num4 (mapB l) = l.length by rw [mapB, List.append_assoc]; exact num_put _ (by omega) _] at hG
  have hd4 : (mapB l).drop 4 = mapOf l ++ mapNm l := by rw [mapB, List.append_assoc]; exact List.drop_left' (by rfl)
  have hdn : (mapOf l ++ mapNm l).drop (4 * l.length) = mapNm l := List.drop_left' (mapOf_len7 l)
  obtain ⟨B, hBB⟩ : ∃ B, B = mapB l := ⟨_, rfl⟩
  obtain ⟨R, hR⟩ : ∃ R, R = mapOf l ++ mapNm l := ⟨_, rfl⟩
  rw [← hBB] at hB hG hd4 ⊢
  rw [← hR] at hd4 hdn
  have hRl : R.length = B.length - 4 := by rw [← hd4]; simp
  have hdm : List.drop 4 (List.map byteV B) = R.map byteV := by rw [← List.map_drop, hd4]
  have htk : List.take (B.length - 4) (R.map byteV) = R.map byteV := List.take_of_length_le (by simp; omega)
  have w1 : IntKind.i64.wrap ((l.length : Int) * 4) = ((4 * l.length : Nat) : Int) := (wrap64_id (by omega) (by omega)).trans (by omega)
  have w2 : IntKind.i64.wrap ((R.length : Int) / 4) = ((R.length / 4 : Nat) : Int) := (wrap64_id (by omega) (by omega)).trans (by omega)
  have w4 : (4 * (l.length : Int)).toNat = 4 * l.length := by omega
  have hN := fun s => names7_c (mapNm l) s
  have hdn2 : List.drop (4 * l.length) (R.map byteV) = (mapNm l).map byteV := by rw [← List.map_drop, hdn]
  refine Pur.enter [3000007] Tryz.func30 rfl Tryz.ntmps30 Tryz.results30 hmE (by kernel_rfl) (by simp) (by simp) fun σ hσ => ?_
  conv => arg 5; cbv
  simp at hG
  simp [show ¬ ((B.length : Int) < 4) by omega]
  refine Pur.call hG ?_
  simp [w1, w2, hdm, htk]
  rw [w4, hdn2]
  refine ⟨by omega, by omega, fun _ => ⟨by omega, by omega, ?_⟩⟩
  simp at hN
  refine (hN σ).mono ?_
  rintro a s ⟨rfl, rfl⟩
  simp
  refine loop_x hmE (by kernel_rfl) (· + 1) 0 (fun i : Nat => [(32, intV i), (7, .lg (σ.next + 1) ((l.take i).map entV))]) (fun i : Nat => (σ.alloc (.arr 23 0 [bytes (mapNm (l.drop i))])).alloc (.log 44 i)) (fun i : Nat => i ≤ l.length) (fun i => l.length - i) (by simp) (fun i hi => ⟨by simp, (hσ.alloc_arr (by simp)).alloc_log _ _, by simp [entV]⟩) (by simp) (by simp) fun i hi => ?_
  simp
  refine ⟨fun h => ?_, fun h => ?_⟩
  · obtain ⟨e, he⟩ := get_ex h
    have hen := List.all_eq_true.1 hok e (List.mem_of_getElem? he)
    have hdr : l.drop i = e :: l.drop (i + 1) := by
      rw [List.drop_eq_getElem_cons h]
      congr 1
      exact (List.getElem?_eq_some_iff.1 he).2
    have hnm : mapNm (l.drop i) = e.name ++ 0 :: mapNm (l.drop (i + 1)) := by rw [hdr]; simp [mapNm]
    have hnl : (mapNm (l.drop i)).length ≤ (mapNm l).length := by
      conv => rhs; rw [← List.take_append_drop i l]
      simp only [mapNm, List.flatMap_append, List.length_append]
      omega
    have hX := fun s hg => next7_c (mapNm (l.drop i)) (by rw [hnm]; simp) (by omega) σ.next s hg
    rw [hnm, nm_name hen] at hX
    simp at hX
    obtain ⟨r', hr'⟩ := mapOf_drop l i (mapNm l) e he
    rw [← hR] at hr'
    have hGe := get7_p (R.drop (4 * i)) (by rw [hr']; simp)
    have hq : num4 (R.drop (4 * i)) = e.off.toNat := by
      have h0 : e.off = ((e.off.toNat : Nat) : Int) := by simp [entOk] at hen; omega
      rw [hr', h0]
      exact num_put e.off.toNat (by simp [entOk] at hen; omega) r'
    have hle : 4 * i + 4 ≤ R.length := by
      have := congrArg List.length hr'
      simp at this
      omega
    rw [hq] at hGe
    simp at hGe
    have w5 : IntKind.i64.wrap ((i : Int) * 4) = 4 * (i : Int) := (wrap64_id (by omega) (by omega)).trans (by omega)
    have w6 : (4 * (i : Int)).toNat = 4 * i := by omega
    have h0 : max e.off 0 = e.off := by simp [entOk] at hen; omega
    refine (hX _ (by simp [hnm])).mono ?_
    rintro a s ⟨rfl, rfl⟩
    simp [w5, w6]
    refine ⟨by omega, by omega, ?_⟩
    refine Pur.call hGe ?_
    simp [h0]
    have hmin : min i l.length = i := by omega
    have hts := take_snoc (f := entV) he
    rw [hmin]
    exact ⟨rfl, by omega, by omega, Below.refl _, ⟨hts, wrap_succ h (by omega)⟩, h, by omega⟩
  · have hil : i = l.length := by omega
    subst hil
    have hLf := fun s hg => left7_c (mapNm (l.drop l.length)) σ.next s hg
    refine (hLf _ (by simp)).mono ?_
    rintro a s ⟨rfl, rfl⟩
    simp [mapNm]
    try exact fun x => by simp [entV]
end Go.Proofs.YtcjdagpadnahfaaGreatDoor
