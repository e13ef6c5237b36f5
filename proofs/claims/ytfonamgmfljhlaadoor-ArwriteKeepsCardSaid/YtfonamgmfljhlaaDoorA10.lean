/- The positions that the program tells. No condition. -/
import Derived.Test.YtfonamgmfljhlaaDoorA9
set_option linter.unusedVariables false
set_option linter.unusedSimpArgs false
set_option linter.unnecessarySimpa false
namespace Go.Proofs.YtfonamgmfljhlaaDoor
open Go Go.AW
set_option maxRecDepth 100000
set_option maxHeartbeats 8000000

/-- The size of a part. -/
def psz (n : Nat) : Nat := 60 + n + n % 2
theorem fmtL_len0 {n b w : Int} (h : fmtE n b w = 0) : (fmtL n b w).length = w.toNat := by
  have hb : nd b.toNat n.toNat ≤ w.toNat := by
    unfold fmtE at h
    split at h
    · omega
    · split at h
      · omega
      · omega
  rw [fmtL, if_pos h, List.length_append, tx_len, List.length_replicate]
  omega
theorem fldL_len0 {n b w : Int} {bl : Bool} (h : fldOk n b w bl = true) : (fldL n b w bl).length = w.toNat := by
  cases bl with
  | true => simp [fldL]
  | false => simp [fldOk] at h; simpa [fldL] using fmtL_len0 h
theorem encL_len0 {h : H} (h0 : encE h = 0) : (encL h).length = 60 := by
  have hf : fitsN h.name = true := by
    cases hf : fitsN h.name with
    | true => rfl
    | false => simp [encE, hf] at h0
  have hok : h.ok = true := by
    cases hok : h.ok with
    | true => rfl
    | false => simp [encE, hf, hok] at h0
  have hlen := fits_len hf
  simp [H.ok] at hok
  obtain ⟨⟨⟨⟨k1, k2⟩, k3⟩, k4⟩, k5⟩ := hok
  have l1 := fldL_len0 k1
  have l2 := fldL_len0 k2
  have l3 := fldL_len0 k3
  have l4 := fldL_len0 k4
  have l5 := fldL_len0 k5
  simp at l1 l2 l3 l4 l5
  rw [encL, if_pos h0]
  simp [H.all, H.head, l1, l2, l3, l4, l5]
  omega
theorem partL_len0 {h : H} {d : W} (h0 : encE (h.sized d) = 0) : (partL h d).length = psz d.length := by
  have := encL_len0 h0
  have hm := Nat.mod_two_eq_zero_or_one d.length
  simp [partL, padL, this, psz]
  rcases hm with hm | hm <;> simp [hm] <;> omega
/-- The sizes of the members' parts. -/
def szp (l : List M) : Nat := (l.map fun m => psz m.data.length).sum
theorem szp_take {l : List M} {i : Nat} {m : M} (h : l[i]? = some m) : szp (l.take (i + 1)) = szp (l.take i) + psz m.data.length := by
  rw [List.take_add_one, h]; simp [szp]
theorem szp_le {l : List M} (hl : fewM l) (i : Nat) : szp (l.take i) ≤ 100061 * 1000 := by
  have key : ∀ l : List M, (∀ m ∈ l, m.lim) → szp l ≤ 100061 * l.length := by
    intro l hl
    induction l with
    | nil => simp [szp]
    | cons m l ih =>
      have h1 := (hl m (by simp)).2.2.2.2.2
      have h2 := ih fun m hm => hl m (by simp [hm])
      have hm := Nat.mod_two_eq_zero_or_one m.data.length
      simp [szp, psz] at h2 ⊢
      omega
  have h1 := key (l.take i) fun m hm => hl.2 m (List.mem_of_mem_take hm)
  have h2 : (l.take i).length ≤ 1000 := by have := hl.1; simp; omega
  omega
theorem memsL_szp {l : List M} (hl : fewM l) (h0 : (fitsI l).2 = 0) : ∀ j, j ≤ l.length → (memsL ((zipL l).take j)).length = szp (l.take j) := by
  have hF := nmsF_len hl h0
  have hz := zip_ok hl h0
  intro j
  induction j with
  | zero => intro _; simp [memsL, szp]
  | succ j ih =>
    intro hj
    obtain ⟨x, hx⟩ := get_ex (l := l) (i := j) (by omega)
    obtain ⟨f, hf⟩ := get_ex (l := nmsF l) (i := j) (by omega)
    have hzj : (zipL l)[j]? = some (x, f) := zip_get hx hf
    rw [memsL_snoc hzj, List.length_append, ih (by omega), szp_take hx, partL_len0 (hz _ (List.mem_of_getElem? hzj)).1]
def offP (base : Nat) (l : List M) (j : Nat) : List Int := (List.range j).map fun i => ((base + szp (l.take i) : Nat) : Int)
theorem offP_snoc (base : Nat) (l : List M) (j : Nat) : offP base l (j + 1) = offP base l j ++ [((base + szp (l.take j) : Nat) : Int)] := by simp [offP, List.range_succ]
@[simp] theorem offP_len (base : Nat) (l : List M) (j : Nat) : (offP base l j).length = j := by simp [offP]
def baseP (hm : Bool) (ms : Nat) (l : List M) : Nat := 8 + (if hm then psz ms else 0) + (if nmsT l = [] then 0 else psz (nmsT l).length)
def offsP (hm : Bool) (ms : Nat) (l : List M) : List Int := if (fitsI l).2 = 0 then offP (baseP hm ms l) l l.length else []
theorem nmsT_len {l : List M} (hl : fewM l) : (nmsT l).length ≤ 1002000 := by
  have h2 := bld_len _ (fewN_of hl).2
  have h3 := hl.1
  unfold nmsT bldT
  split
  · simp at h2; omega
  · simp
/-- The program tells the positions that the reference finds. -/
theorem offs_same (hm : Bool) (m : W) (hmm : m.length ≤ 2000000) {l : List M} (hl : fewM l) : offsP hm m.length l = refO hm m l := by
  unfold offsP refO
  split
  · rename_i h0
    have hb : (baseL hm m l).length = baseP hm m.length l := by
      have h1 := partL_len0 (map_ok m hmm)
      have h2 := partL_len0 (tab_ok (nmsT l) (by have := nmsT_len hl; omega))
      simp [baseL, baseP, preMap, preTab, magic]
      cases hm <;> simp [h1]
      · by_cases ht : nmsT l = [] <;> simp [ht, h2] <;> omega
      · by_cases ht : nmsT l = [] <;> simp [ht, h2] <;> omega
    unfold offP offsL
    refine List.map_congr_left fun i hi => ?_
    rw [List.mem_range] at hi
    rw [hb, memsL_szp hl h0 i (by omega)]
  · rfl
theorem Offsets_p (hm : Bool) (ms : Nat) (l : List M) (hms : ms ≤ 2000000) (hl : fewM l) : Pur E 14 [boolV hm, intV ms, memsV l] (ints (offsP hm ms l)) := by
  refine Pur.enter [3000009] Tryd.func14 rfl Tryd.ntmps14 Tryd.results14 hmE (by kernel_rfl) (by simp) (by simp) fun σ hσ => ?_
  conv => arg 5; cbv
  simp
  refine Pur.call (AFits_p l hl) ?_
  simp
  refine ⟨fun h0 => by simp [offsP, h0], fun h0 => ?_⟩
  have hT := nmsT_len hl
  have m1 := Nat.mod_two_eq_zero_or_one ms
  have m2 := Nat.mod_two_eq_zero_or_one (nmsT l).length
  obtain ⟨T, hTT⟩ : ∃ T, T = (nmsT l).length := ⟨_, rfl⟩
  have w1 : IntKind.i64.wrap (60 + (ms : Int)) = 60 + (ms : Int) := wrap64_id (by omega) (by omega)
  have w2 : IntKind.i64.wrap (60 + (ms : Int) + (ms : Int) % 2) = 60 + (ms : Int) + (ms : Int) % 2 := wrap64_id (by omega) (by omega)
  have w3 : IntKind.i64.wrap (8 + (60 + (ms : Int) + (ms : Int) % 2)) = 8 + (60 + (ms : Int) + (ms : Int) % 2) := wrap64_id (by omega) (by omega)
  have w4 : IntKind.i64.wrap (60 + ((nmsT l).length : Int)) = 60 + ((nmsT l).length : Int) := wrap64_id (by omega) (by omega)
  have w5 : IntKind.i64.wrap (60 + ((nmsT l).length : Int) + ((nmsT l).length : Int) % 2) = 60 + ((nmsT l).length : Int) + ((nmsT l).length : Int) % 2 := wrap64_id (by omega) (by omega)
  have w6 : IntKind.i64.wrap (8 + (60 + (ms : Int) + (ms : Int) % 2) + (60 + ((nmsT l).length : Int) + ((nmsT l).length : Int) % 2)) = 8 + (60 + (ms : Int) + (ms : Int) % 2) + (60 + ((nmsT l).length : Int) + ((nmsT l).length : Int) % 2) := wrap64_id (by omega) (by omega)
  have w7 : IntKind.i64.wrap (8 + (60 + ((nmsT l).length : Int) + ((nmsT l).length : Int) % 2)) = 8 + (60 + ((nmsT l).length : Int) + ((nmsT l).length : Int) % 2) := wrap64_id (by omega) (by omega)
  refine ⟨fun hmt => ?_, fun hmf => ?_⟩
  · subst hmt
    refine Pur.call (names_p l hl) ?_
    simp [tmod2, w1, w2, w3, w4, w5, w6, w7]
    refine ⟨fun ht => ?_, fun ht => ?_⟩
    · have ht' : nmsT l ≠ [] := by rintro e; rw [e] at ht; simp at ht
      have hB : baseP true ms l ≤ 10000000 := by
        simp [baseP, psz, ht'] <;> omega
      refine loop_x hmE (by kernel_rfl) (· + 1) 0 (fun j : Nat => [(49, intV j), (10, intV ((baseP true ms l + szp (l.take j) : Nat) : Int)), (9, .lg σ.next ((offP (baseP true ms l) l j).map intV))]) (fun j : Nat => σ.alloc (.log 3 j)) (fun j : Nat => j ≤ l.length) (fun j => l.length - j) (by simp) (fun j hj => ⟨by simp, by simp [hσ], by simp⟩) (by simp) (by simp [szp, offP, baseP, psz, ht']; try omega) fun j hj => ?_
      simp
      refine ⟨fun h => ?_, fun h => ?_⟩
      · obtain ⟨x, hx⟩ := get_ex h
        have hs := szp_take hx
        have h1 := szp_le hl j
        have h2 := szp_le hl (j + 1)
        have hdl := (hl.2 x (List.mem_of_getElem? hx)).2.2.2.2.2
        have hm := Nat.mod_two_eq_zero_or_one x.data.length
        have hll := hl.1
        have v1 : IntKind.i64.wrap (60 + (x.data.length : Int)) = 60 + (x.data.length : Int) := wrap64_id (by omega) (by omega)
        have v2 : IntKind.i64.wrap (60 + (x.data.length : Int) + (x.data.length : Int) % 2) = 60 + (x.data.length : Int) + (x.data.length : Int) % 2 := wrap64_id (by omega) (by omega)
        simp [hx, tmod2, v1, v2, hs, offP_snoc]
        refine ⟨by omega, by omega, ?_⟩
        have hpz : (psz x.data.length : Int) = 60 + (x.data.length : Int) + (x.data.length : Int) % 2 := by simp [psz]
        exact ⟨⟨(wrap64_id (by omega) (by omega)).trans (by omega), wrap_succ h (by omega)⟩, by omega, by omega⟩
      · have hjl : j = l.length := by omega
        subst hjl
        simp [offsP, h0]
    · have ht' : nmsT l = [] := ht
      have hB : baseP true ms l ≤ 10000000 := by
        simp [baseP, psz, ht'] <;> omega
      refine loop_x hmE (by kernel_rfl) (· + 1) 0 (fun j : Nat => [(49, intV j), (10, intV ((baseP true ms l + szp (l.take j) : Nat) : Int)), (9, .lg σ.next ((offP (baseP true ms l) l j).map intV))]) (fun j : Nat => σ.alloc (.log 3 j)) (fun j : Nat => j ≤ l.length) (fun j => l.length - j) (by simp) (fun j hj => ⟨by simp, by simp [hσ], by simp⟩) (by simp) (by simp [szp, offP, baseP, psz, ht']; try omega) fun j hj => ?_
      simp
      refine ⟨fun h => ?_, fun h => ?_⟩
      · obtain ⟨x, hx⟩ := get_ex h
        have hs := szp_take hx
        have h1 := szp_le hl j
        have h2 := szp_le hl (j + 1)
        have hdl := (hl.2 x (List.mem_of_getElem? hx)).2.2.2.2.2
        have hm := Nat.mod_two_eq_zero_or_one x.data.length
        have hll := hl.1
        have v1 : IntKind.i64.wrap (60 + (x.data.length : Int)) = 60 + (x.data.length : Int) := wrap64_id (by omega) (by omega)
        have v2 : IntKind.i64.wrap (60 + (x.data.length : Int) + (x.data.length : Int) % 2) = 60 + (x.data.length : Int) + (x.data.length : Int) % 2 := wrap64_id (by omega) (by omega)
        simp [hx, tmod2, v1, v2, hs, offP_snoc]
        refine ⟨by omega, by omega, ?_⟩
        have hpz : (psz x.data.length : Int) = 60 + (x.data.length : Int) + (x.data.length : Int) % 2 := by simp [psz]
        exact ⟨⟨(wrap64_id (by omega) (by omega)).trans (by omega), wrap_succ h (by omega)⟩, by omega, by omega⟩
      · have hjl : j = l.length := by omega
        subst hjl
        simp [offsP, h0]
  · subst hmf
    refine Pur.call (names_p l hl) ?_
    simp [tmod2, w1, w2, w3, w4, w5, w6, w7]
    refine ⟨fun ht => ?_, fun ht => ?_⟩
    · have ht' : nmsT l ≠ [] := by rintro e; rw [e] at ht; simp at ht
      have hB : baseP false ms l ≤ 10000000 := by
        simp [baseP, psz, ht'] <;> omega
      refine loop_x hmE (by kernel_rfl) (· + 1) 0 (fun j : Nat => [(49, intV j), (10, intV ((baseP false ms l + szp (l.take j) : Nat) : Int)), (9, .lg σ.next ((offP (baseP false ms l) l j).map intV))]) (fun j : Nat => σ.alloc (.log 3 j)) (fun j : Nat => j ≤ l.length) (fun j => l.length - j) (by simp) (fun j hj => ⟨by simp, by simp [hσ], by simp⟩) (by simp) (by simp [szp, offP, baseP, psz, ht']; try omega) fun j hj => ?_
      simp
      refine ⟨fun h => ?_, fun h => ?_⟩
      · obtain ⟨x, hx⟩ := get_ex h
        have hs := szp_take hx
        have h1 := szp_le hl j
        have h2 := szp_le hl (j + 1)
        have hdl := (hl.2 x (List.mem_of_getElem? hx)).2.2.2.2.2
        have hm := Nat.mod_two_eq_zero_or_one x.data.length
        have hll := hl.1
        have v1 : IntKind.i64.wrap (60 + (x.data.length : Int)) = 60 + (x.data.length : Int) := wrap64_id (by omega) (by omega)
        have v2 : IntKind.i64.wrap (60 + (x.data.length : Int) + (x.data.length : Int) % 2) = 60 + (x.data.length : Int) + (x.data.length : Int) % 2 := wrap64_id (by omega) (by omega)
        simp [hx, tmod2, v1, v2, hs, offP_snoc]
        refine ⟨by omega, by omega, ?_⟩
        have hpz : (psz x.data.length : Int) = 60 + (x.data.length : Int) + (x.data.length : Int) % 2 := by simp [psz]
        exact ⟨⟨(wrap64_id (by omega) (by omega)).trans (by omega), wrap_succ h (by omega)⟩, by omega, by omega⟩
      · have hjl : j = l.length := by omega
        subst hjl
        simp [offsP, h0]
    · have ht' : nmsT l = [] := ht
      have hB : baseP false ms l ≤ 10000000 := by
        simp [baseP, psz, ht'] <;> omega
      refine loop_x hmE (by kernel_rfl) (· + 1) 0 (fun j : Nat => [(49, intV j), (10, intV ((baseP false ms l + szp (l.take j) : Nat) : Int)), (9, .lg σ.next ((offP (baseP false ms l) l j).map intV))]) (fun j : Nat => σ.alloc (.log 3 j)) (fun j : Nat => j ≤ l.length) (fun j => l.length - j) (by simp) (fun j hj => ⟨by simp, by simp [hσ], by simp⟩) (by simp) (by simp [szp, offP, baseP, psz, ht']; try omega) fun j hj => ?_
      simp
      refine ⟨fun h => ?_, fun h => ?_⟩
      · obtain ⟨x, hx⟩ := get_ex h
        have hs := szp_take hx
        have h1 := szp_le hl j
        have h2 := szp_le hl (j + 1)
        have hdl := (hl.2 x (List.mem_of_getElem? hx)).2.2.2.2.2
        have hm := Nat.mod_two_eq_zero_or_one x.data.length
        have hll := hl.1
        have v1 : IntKind.i64.wrap (60 + (x.data.length : Int)) = 60 + (x.data.length : Int) := wrap64_id (by omega) (by omega)
        have v2 : IntKind.i64.wrap (60 + (x.data.length : Int) + (x.data.length : Int) % 2) = 60 + (x.data.length : Int) + (x.data.length : Int) % 2 := wrap64_id (by omega) (by omega)
        simp [hx, tmod2, v1, v2, hs, offP_snoc]
        refine ⟨by omega, by omega, ?_⟩
        have hpz : (psz x.data.length : Int) = 60 + (x.data.length : Int) + (x.data.length : Int) % 2 := by simp [psz]
        exact ⟨⟨(wrap64_id (by omega) (by omega)).trans (by omega), wrap_succ h (by omega)⟩, by omega, by omega⟩
      · have hjl : j = l.length := by omega
        subst hjl
        simp [offsP, h0]
end Go.Proofs.YtfonamgmfljhlaaDoor
