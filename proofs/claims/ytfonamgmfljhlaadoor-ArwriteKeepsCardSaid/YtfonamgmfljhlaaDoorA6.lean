/- Members: what fits, headers, parts. No condition. -/
import Derived.Test.YtfonamgmfljhlaaDoorA5
set_option linter.unusedVariables false
set_option linter.unusedSimpArgs false
set_option linter.unnecessarySimpa false
namespace Go.Proofs.YtfonamgmfljhlaaDoor
open Go Go.AW
set_option maxRecDepth 100000
set_option maxHeartbeats 8000000

/-- A member. -/
structure M where
  name : W
  t : Int
  u : Int
  g : Int
  m : Int
  data : W
  deriving DecidableEq, Inhabited
def memV (m : M) : AV := .agg [str m.name, intV m.t, intV m.u, intV m.g, intV m.m, bytes m.data]
def memsV (l : List M) : AV := .ps (l.map memV)
attribute [simp] memsV memV
@[simp high] theorem frzL_memV (l : List M) : frzL (l.map memV) = l.map memV := by rw [frzL_map]; exact List.map_congr_left fun x _ => by simp
def M.lim (m : M) : Prop := m.t < 9223372036854775808 ∧ m.u < 9223372036854775808 ∧ m.g < 9223372036854775808 ∧ m.m < 9223372036854775808 ∧ m.name.length ≤ 1000 ∧ m.data.length ≤ 100000
def fewM (l : List M) : Prop := l.length ≤ 1000 ∧ ∀ m ∈ l, m.lim
/-- The header of a member. -/
def hdrM (m : M) (f : W) : H := ⟨f, m.t, m.u, m.g, m.m, m.data.length⟩
theorem hdrM_lim {m : M} (h : m.lim) {f : W} (hf : f.length ≤ 1000000) : (hdrM m f).lim := ⟨h.1, h.2.1, h.2.2.1, h.2.2.2.1, by have := h.2.2.2.2.2; show (m.data.length : Int) < _; omega, hf⟩
theorem head_p (m : M) (f : W) : Pur E 24 [memV m, str f] (hdrV (hdrM m f)) := by
  refine Pur.enter [] Tryd.func24 rfl Tryd.ntmps24 Tryd.results24 hmE (by kernel_rfl) (by simp) (by simp) fun σ hσ => ?_
  conv => arg 5; cbv
  simp [hdrM]
/-- Do a member's numbers fit? -/
def fitM (m : M) : Bool := fldOk m.t 10 12 false && fldOk m.u 10 6 false && fldOk m.g 10 6 false && fldOk m.m 8 8 false && fldOk m.data.length 10 10 false
theorem enc_fit (m : M) (f : W) (h1 : fitsN f = true) (h2 : f ≠ [47, 47]) : encE (hdrM m f) = if fitM m then 0 else 9 := by
  have ht : (hdrM m f).tab = false := by simp [H.tab, hdrM, h2]
  have : (hdrM m f).ok = fitM m := by
    unfold H.ok
    rw [ht]
    rfl
  simp [encE, this]
  rw [show (hdrM m f).name = f from rfl, h1]
  simp
/-- What is wrong with a member. -/
def badE (m : M) : Int := if validN m.name = false then 6 else if fitM m then 0 else 9
def fitsI : List M → Int × Int
  | [] => (-1, 0)
  | m :: l => if badE m ≠ 0 then (0, badE m) else if (fitsI l).2 = 0 then (-1, 0) else ((fitsI l).1 + 1, (fitsI l).2)
theorem fits_none : ∀ {l : List M}, (∀ m ∈ l, badE m = 0) → fitsI l = (-1, 0)
  | [], _ => rfl
  | m :: l, h => by
    have := fits_none (l := l) fun m hm => h m (by simp [hm])
    simp [fitsI, this, h m (by simp)]
theorem fits_at : ∀ {l : List M} {i : Nat} {m : M}, l[i]? = some m → (∀ x ∈ l.take i, badE x = 0) → badE m ≠ 0 → fitsI l = ((i : Int), badE m)
  | x :: l, 0, m, h, _, hb => by simp at h; subst h; simp [fitsI, hb]
  | x :: l, i + 1, m, h, hall, hb => by
    have := fits_at (l := l) (i := i) (by simpa using h) (fun y hy => hall y (by simp [hy])) hb
    have hx := hall x (by simp)
    simp [fitsI, this, hx, hb]
theorem fits_ok {l : List M} (h : (fitsI l).2 = 0) : ∀ m ∈ l, badE m = 0 := by
  induction l with
  | nil => simp
  | cons m l ih =>
    simp only [fitsI] at h
    split at h
    · rename_i hb; exact absurd h hb
    · rename_i hb
      split at h
      · rename_i h2
        intro x hx
        rcases List.mem_cons.1 hx with rfl | hx
        · simpa using hb
        · exact ih h2 x hx
      · rename_i h2; exact absurd h h2
def pairV (x : Int × Int) : AV := .tup [intV x.1, intV x.2]
attribute [simp] pairV
theorem take_bad {l : List M} {i : Nat} {m : M} (h : l[i]? = some m) (hall : ∀ x ∈ l.take i, badE x = 0) (hm : badE m = 0) : ∀ x ∈ l.take (i + 1), badE x = 0 := by
  rw [List.take_add_one, h]
  intro x hx
  simp at hx
  rcases hx with hx | rfl
  · exact hall x hx
  · exact hm
theorem AFits_p (l : List M) (hl : fewM l) : Pur E 11 [memsV l] (pairV (fitsI l)) := by
  refine Pur.enter [] Tryd.func11 rfl Tryd.ntmps11 Tryd.results11 hmE (by kernel_rfl) (by simp) (by simp) fun σ hσ => ?_
  conv => arg 5; cbv
  simp
  refine loop_n hmE (by kernel_rfl) l.length (fun i => [(8, intV i)]) (fun i => i ≤ l.length ∧ ∀ x ∈ l.take i, badE x = 0) (Nat.le_refl _) hσ (by simp) (by simp) (by simp) fun i ⟨hi, hall⟩ => ?_
  simp
  refine ⟨fun h => ?_, fun h => ?_⟩
  · obtain ⟨m, hm⟩ := get_ex h
    have hml := hl.2 m (List.mem_of_getElem? hm)
    have hll := hl.1
    refine ⟨m, hm, ?_⟩
    refine Pur.call (Valid_p m.name (by have := hml.2.2.2.2.1; omega)) ?_
    simp
    refine ⟨fun hv => ?_, fun hv => ?_⟩
    · have hb : badE m = 6 := by simp [badE, hv]
      rw [fits_at hm hall (by omega), hb]
      simp
    · refine Pur.call (head_p m [120]) ?_
      simp
      refine Pur.call (Fits_p (hdrM m [120]) (hdrM_lim hml (by simp))) ?_
      simp
      rw [enc_fit m [120] (by decide) (by simp)]
      cases hf : fitM m with
      | false =>
        have hb : badE m = 9 := by simp [badE, hv, hf]
        simp
        rw [fits_at hm hall (by omega), hb]
        simp
      | true =>
        have hb : badE m = 0 := by simp [badE, hv, hf]
        simp
        exact ⟨wrap_succ h (by omega), ⟨h, take_bad hm hall hb⟩, by omega⟩
  · rw [List.take_of_length_le h] at hall
    rw [fits_none hall]
    simp
theorem rAFits_p (l : List M) (hl : fewM l) : Pur E 17 [memsV l] (pairV (fitsI l)) := by
  refine Pur.enter [] Tryd.func17 rfl Tryd.ntmps17 Tryd.results17 hmE (by kernel_rfl) (by simp) (by simp) fun σ hσ => ?_
  conv => arg 5; cbv
  simp
  refine loop_n hmE (by kernel_rfl) l.length (fun i => [(4, intV i)]) (fun i => i ≤ l.length ∧ ∀ x ∈ l.take i, badE x = 0) (Nat.le_refl _) hσ (by simp) (by simp) (by simp) fun i ⟨hi, hall⟩ => ?_
  simp
  refine ⟨fun h => ?_, fun h => ?_⟩
  · obtain ⟨m, hm⟩ := get_ex h
    have hml := hl.2 m (List.mem_of_getElem? hm)
    have hll := hl.1
    refine ⟨m, hm, ?_⟩
    refine Pur.call (rValid_p m.name (by have := hml.2.2.2.2.1; omega)) ?_
    simp
    refine ⟨fun hv => ?_, fun hv => ?_⟩
    · have hb : badE m = 6 := by simp [badE, hv]
      rw [fits_at hm hall (by omega), hb]
      simp
    · refine Pur.call (rEncode_p (hdrM m [97]) (hdrM_lim hml (by simp))) ?_
      simp
      rw [enc_fit m [97] (by decide) (by simp)]
      cases hf : fitM m with
      | false =>
        have hb : badE m = 9 := by simp [badE, hv, hf]
        simp
        rw [fits_at hm hall (by omega), hb]
        simp
      | true =>
        have hb : badE m = 0 := by simp [badE, hv, hf]
        simp
        exact ⟨wrap_succ h (by omega), ⟨h, take_bad hm hall hb⟩, by omega⟩
  · rw [List.take_of_length_le h] at hall
    rw [fits_none hall]
    simp
def nmsT (l : List M) : W := bldT (l.map M.name)
def nmsF (l : List M) : List W := bldF (l.map M.name)
theorem fewN_of {l : List M} (h : fewM l) : fewN (l.map M.name) := ⟨by simpa using h.1, fun n hn => by obtain ⟨m, hm, rfl⟩ := List.mem_map.1 hn; exact (h.2 m hm).2.2.2.2.1⟩
theorem names_p (l : List M) (hl : fewM l) : Pur E 25 [memsV l] (.tup [bytes (nmsT l), strs (nmsF l)]) := by
  refine Pur.enter [3000004] Tryd.func25 rfl Tryd.ntmps25 Tryd.results25 hmE (by kernel_rfl) (by simp) (by simp) fun σ hσ => ?_
  conv => arg 5; cbv
  simp
  refine loop_x hmE (by kernel_rfl) (· + 1) 0 (fun i : Nat => [(12, intV i), (4, .lg σ.next (((l.take i).map M.name).map str))]) (fun i : Nat => σ.alloc (.log 9 i)) (fun i : Nat => i ≤ l.length) (fun i => l.length - i) (by simp) (fun i hi => ⟨by simp, by simp [hσ], by simp⟩) (by simp) (by simp) fun i hi => ?_
  have hll := hl.1
  simp [Nat.min_eq_left hi]
  refine ⟨fun h => ?_, fun h => ?_⟩
  · obtain ⟨m, hm⟩ := get_ex h
    refine ⟨m, hm, by omega, by omega, ?_⟩
    exact ⟨⟨take_snoc (f := fun x : M => AV.c (.string (bs x.name))) hm, wrap_succ h (by omega)⟩, by omega, by omega⟩
  · rw [List.take_of_length_le (by simpa using h)]
    have hb := Build_p (l.map M.name) (fewN_of hl)
    simp at hb
    refine Pur.call hb ?_
    simp [nmsT, nmsF]
def ints (l : List Int) : AV := .ps (l.map intV)
attribute [simp] ints
theorem Numbers_p (a b : List Int) (ha : a.length ≤ 9223372036854775807) : Pur E 13 [ints a, ints b] (boolV (a == b)) := by
  refine Pur.enter [] Tryd.func13 rfl Tryd.ntmps13 Tryd.results13 hmE (by kernel_rfl) (by simp) (by simp) fun σ hσ => ?_
  conv => arg 5; cbv
  simp
  refine ⟨fun h e => h (by rw [e]), fun hl => ?_⟩
  refine loop_n hmE (by kernel_rfl) a.length (fun i => [(5, intV i)]) (fun i => i ≤ a.length ∧ a.take i = b.take i) (Nat.le_refl _) hσ (by simp) (by simp) (by simp) fun i ⟨hi, he⟩ => ?_
  simp
  refine ⟨fun h => ?_, fun h => ?_⟩
  · rw [wrap_succ h ha]
    have h' : i < b.length := by omega
    refine ⟨a[i], by simp, b[i], by simp, fun hne e => hne (by subst e; rfl), fun e => ⟨rfl, ⟨h, ?_⟩, by omega⟩⟩
    rw [List.take_succ_eq_append_getElem h, List.take_succ_eq_append_getElem h', he, e]
  · rwa [List.take_of_length_le h, List.take_of_length_le (by omega)] at he
def magic : W := [33, 60, 97, 114, 99, 104, 62, 10]
theorem Magic_p : Pur E 12 [] (bytes magic) := by
  refine Pur.enter [1000001] Tryd.func12 rfl Tryd.ntmps12 Tryd.results12 hmE (by kernel_rfl) (by simp) (by simp) fun σ hσ => ?_
  conv => arg 5; cbv
  simp [magic]
/-- The bytes of all members. -/
def szs (l : List M) : Nat := (l.map fun m => m.data.length).sum
theorem szs_take {l : List M} {i : Nat} {m : M} (h : l[i]? = some m) : szs (l.take (i + 1)) = szs (l.take i) + m.data.length := by
  rw [List.take_add_one, h]; simp [szs]
theorem szs_le (l : List M) (i : Nat) (h : ∀ m ∈ l.take i, m.data.length ≤ 1000) : szs (l.take i) ≤ 1000 * i := by
  have key : ∀ l : List M, (∀ m ∈ l, m.data.length ≤ 1000) → szs l ≤ 1000 * l.length := by
    intro l hl
    induction l with
    | nil => simp [szs]
    | cons m l ih =>
      have h1 := hl m (by simp)
      have h2 := ih fun m hm => hl m (by simp [hm])
      simp [szs] at h2 ⊢
      omega
  have := key _ h
  have : (l.take i).length ≤ i := by simp; omega
  omega
/-- Small lists. -/
def few20 (l : List M) : Bool := l.all (fun m => decide (m.name.length ≤ 300 ∧ m.data.length ≤ 1000)) && decide (l.length ≤ 20 ∧ szs l ≤ 5000)
theorem Few_p (l : List M) (hl : l.length ≤ 9223372036854775807) : Pur E 5 [memsV l] (boolV (few20 l)) := by
  refine Pur.enter [] Tryd.func5 rfl Tryd.ntmps5 Tryd.results5 hmE (by kernel_rfl) (by simp) (by simp) fun σ hσ => ?_
  conv => arg 5; cbv
  simp
  refine loop_n hmE (by kernel_rfl) l.length (fun i => [(4, intV i), (3, intV (szs (l.take i) : Nat))]) (fun i => i ≤ l.length ∧ i ≤ 21 ∧ (l.take i).all (fun m => decide (m.name.length ≤ 300 ∧ m.data.length ≤ 1000)) = true) (Nat.le_refl _) hσ (by simp) (by simp) (by simp [szs]) fun i ⟨hi, hi2, hall⟩ => ?_
  simp
  have hend : l.length ≤ i → few20 l = decide (l.length ≤ 20 ∧ szs l ≤ 5000) := fun h => by
    rw [List.take_of_length_le h] at hall
    rw [few20, hall]; rfl
  have hbig : 20 < l.length → few20 l = false := fun h => by simp [few20]; intro _ h2; omega
  have hout : ((l.length : Int) ≤ 20 → decide ((szs (l.take i) : Int) ≤ 5000) = few20 l) ∧ ((20 : Int) < l.length → few20 l = false) → True := fun _ => trivial
  refine ⟨fun h => ⟨fun h20 => ?_, fun h20 => ⟨fun h3 => by omega, fun h3 => hbig (by omega)⟩⟩, fun h => ⟨fun h3 => ?_, fun h3 => hbig (by omega)⟩⟩
  · obtain ⟨m, hm⟩ := get_ex h
    have hmem := List.mem_of_getElem? hm
    have hno : ¬ (m.name.length ≤ 300 ∧ m.data.length ≤ 1000) → few20 l = false := fun h => by
      simp [few20]
      intro hx
      exact absurd (hx m hmem) h
    have hs := szs_take hm
    have hsl := szs_le l i fun m hm => by simp at hall; exact (hall m hm).2
    refine ⟨m, hm, fun h1 => hno (by omega), fun h1 => ⟨m, hm, fun h2 => hno (by omega), fun h2 => ⟨m, hm, ⟨(wrap64_id (by omega) (by omega)).trans (by omega), wrap_succ h (by omega)⟩, ⟨h, by omega, ?_⟩, by omega⟩⟩⟩
    intro x hx
    rw [List.take_add_one, hm] at hx
    simp at hx hall
    rcases hx with hx | rfl
    · exact hall x hx
    · exact ⟨by omega, by omega⟩
  · rw [hend h, List.take_of_length_le h, Bool.eq_iff_iff]
    simp
    omega
end Go.Proofs.YtfonamgmfljhlaaDoor
