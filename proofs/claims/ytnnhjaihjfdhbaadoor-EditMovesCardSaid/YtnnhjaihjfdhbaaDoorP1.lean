/- Members, lists of members and the small functions that compare, count and look for them. No condition. -/
import Derived.Test.YtnnhjaihjfdhbaaDoorAwT
import Derived.Test.YtnnhjaihjfdhbaaDoorS3
set_option linter.unusedVariables false
set_option linter.unusedSimpArgs false
set_option linter.unnecessarySimpa false
namespace Go.Proofs.YtnnhjaihjfdhbaaDoor
open Go Go.AW
set_option maxRecDepth 100000
set_option maxHeartbeats 8000000

/-- A word. -/
abbrev W := List UInt8
/-- A member. -/
structure M where
  name : W
  t : Int
  u : Int
  g : Int
  m : Int
  data : W
  deriving DecidableEq, Inhabited
noncomputable def E : Env := ⟨Tryd.prog, fun g => if g = 0 then some [.c (.bool false), .fn (.func 62) [] [], .c (.bool true), .fn (.func 63) [] [], .c (.bool true), .fn (.func 64) [] []] else none⟩
@[simp] theorem E_P : E.P = Tryd.prog := rfl
@[simp] theorem E_G0 : E.G 0 = some [.c (.bool false), .fn (.func 62) [] [], .c (.bool true), .fn (.func 63) [] [], .c (.bool true), .fn (.func 64) [] []] := rfl
theorem hmE : E.P.follows .mixedOrders = true := by kernel_rfl
abbrev intV (n : Int) : AV := .c (.int .i64 n)
abbrev boolV (b : Bool) : AV := .c (.bool b)
def strs (l : List W) : AV := .ps (l.map str)
def bytes (l : W) : AV := .ps (l.map byteV)
def memV (m : M) : AV := .agg [str m.name, intV m.t, intV m.u, intV m.g, intV m.m, bytes m.data]
def memsV (l : List M) : AV := .ps (l.map memV)
attribute [simp] strs bytes memsV memV
@[simp high] theorem frzL_memV (l : List M) : frzL (l.map memV) = l.map memV := by rw [frzL_map]; exact List.map_congr_left fun x _ => by simp
/-- The index of the member with a name, or -1. -/
def findI : List M → W → Int
  | [], _ => -1
  | m :: l, w => if m.name = w then 0 else if findI l w < 0 then -1 else findI l w + 1
theorem findI_ge (l : List M) (w : W) : -1 ≤ findI l w := by
  induction l with
  | nil => simp [findI]
  | cons m l ih => simp only [findI]; split <;> first | omega | (split <;> omega)
theorem findI_at {w : W} : ∀ {l : List M} {i : Nat} (h : i < l.length), (∀ m ∈ l.take i, m.name ≠ w) → l[i].name = w → findI l w = i
  | m :: l, 0, _, _, hw => by simp at hw; simp [findI, hw]
  | m :: l, i + 1, h, he, hw => by
    simp at h hw he
    have := findI_at (w := w) h (fun m hm => he.2 m hm) hw
    simp [findI, he.1, this]; omega
theorem findI_none {w : W} : ∀ {l : List M}, (∀ m ∈ l, m.name ≠ w) → findI l w = -1
  | [], _ => rfl
  | m :: l, he => by
    simp at he
    have := findI_none (w := w) he.2
    simp [findI, he.1, this]
theorem Texts_p (a b : List W) (ha : a.length ≤ 9223372036854775807) : Pur E 24 [strs a, strs b] (boolV (a == b)) := by
  refine Pur.enter [] Tryd.func24 rfl Tryd.ntmps24 Tryd.results24 hmE (by kernel_rfl) (by simp) (by simp) fun σ hσ => ?_
  conv => arg 5; cbv
  simp
  refine ⟨fun h e => h (by rw [e]), fun hl => ?_⟩
  refine loop_n hmE (by kernel_rfl) a.length (fun i => [(5, intV i)]) (fun i => i ≤ a.length ∧ a.take i = b.take i) (Nat.le_refl _) hσ (by simp) (by simp) (by simp) fun i ⟨hi, he⟩ => ?_
  simp
  refine ⟨fun h => ?_, fun h => ?_⟩
  · rw [wrap_succ h ha]
    have h' : i < b.length := by omega
    refine ⟨a[i], by simp, b[i], by simp, fun hne e => hne (by subst e; rfl), fun e => ⟨rfl, ⟨h, ?_⟩, by omega⟩⟩
    rw [List.take_succ_eq_append_getElem h, List.take_succ_eq_append_getElem h', he, e]
  · rwa [List.take_of_length_le h, List.take_of_length_le (by omega)] at he
theorem Same_p (a b : W) (ha : a.length ≤ 9223372036854775807) : Pur E 27 [bytes a, bytes b] (boolV (a == b)) := by
  refine Pur.enter [] Tryd.func27 rfl Tryd.ntmps27 Tryd.results27 hmE (by kernel_rfl) (by simp) (by simp) fun σ hσ => ?_
  conv => arg 5; cbv
  simp
  refine ⟨fun h e => h (by rw [e]), fun hl => ?_⟩
  refine loop_n hmE (by kernel_rfl) a.length (fun i => [(5, intV i)]) (fun i => i ≤ a.length ∧ a.take i = b.take i) (Nat.le_refl _) hσ (by simp) (by simp) (by simp) fun i ⟨hi, he⟩ => ?_
  simp
  refine ⟨fun h => ?_, fun h => ?_⟩
  · rw [wrap_succ h ha]
    have h' : i < b.length := by omega
    refine ⟨a[i], by simp, b[i], by simp, fun hne e => hne (by subst e; rfl), fun e => ⟨rfl, ⟨h, ?_⟩, by omega⟩⟩
    rw [List.take_succ_eq_append_getElem h, List.take_succ_eq_append_getElem h', he, UInt8.toNat_inj.1 (by omega : a[i].toNat = b[i].toNat)]
  · rwa [List.take_of_length_le h, List.take_of_length_le (by omega)] at he
theorem List_p (l : List M) (hl : l.length ≤ 1000000) : Pur E 25 [memsV l] (strs (l.map M.name)) := by
  refine Pur.enter [3000003] Tryd.func25 rfl Tryd.ntmps25 Tryd.results25 hmE (by kernel_rfl) (by simp) (by simp) fun σ hσ => ?_
  conv => arg 5; cbv
  simp
  refine loop_x hmE (by kernel_rfl) (· + 1) 0 (fun i : Nat => [(8, intV i), (3, .lg σ.next ((l.map fun m => str m.name).take i))]) (fun i : Nat => σ.alloc (.log 9 i)) (fun i : Nat => i ≤ l.length) (fun i => l.length - i) (by simp) (fun i hi => by simp [hσ]) (by simp) (by simp) fun i hi => ?_
  simp [Nat.min_eq_left hi]
  refine ⟨fun h => ?_, fun h => ?_⟩
  · obtain ⟨a, ha⟩ := get_ex h
    exact ⟨a, ha, by omega, by omega, ⟨take_snoc ha, wrap_succ h (by omega)⟩, by omega, by omega⟩
  · rw [List.take_of_length_le (by simpa using h)]
    rfl
theorem SameMember_p (a b : M) (ha : a.data.length ≤ 9223372036854775807) : Pur E 14 [memV a, memV b] (boolV (a == b)) := by
  refine Pur.enter [] Tryd.func14 rfl Tryd.ntmps14 Tryd.results14 hmE (by kernel_rfl) (by simp) (by simp) fun σ hσ => ?_
  conv => arg 5; cbv
  obtain ⟨n, t, u, g, m, d⟩ := a
  obtain ⟨n', t', u', g', m', d'⟩ := b
  simp
  refine ⟨fun h1 => ⟨fun h2 => ⟨fun h3 => ⟨fun h4 => ⟨fun h5 => ?_, ?_⟩, ?_⟩, ?_⟩, ?_⟩, ?_⟩
  · refine Pur.call (Same_p d d' ha) ?_
    simp [h1, h2, h3, h4, h5]
    rw [Bool.eq_iff_iff]
    simp
  all_goals simp_all
theorem SameMembers_p (a b : List M) (ha : a.length ≤ 9223372036854775807) (hd : ∀ m ∈ a, m.data.length ≤ 9223372036854775807) : Pur E 12 [memsV a, memsV b] (boolV (a == b)) := by
  refine Pur.enter [] Tryd.func12 rfl Tryd.ntmps12 Tryd.results12 hmE (by kernel_rfl) (by simp) (by simp) fun σ hσ => ?_
  conv => arg 5; cbv
  simp
  refine ⟨fun h e => h (by rw [e]), fun hl => ?_⟩
  refine loop_n hmE (by kernel_rfl) a.length (fun i => [(5, intV i)]) (fun i => i ≤ a.length ∧ a.take i = b.take i) (Nat.le_refl _) hσ (by simp) (by simp) (by simp) fun i ⟨hi, he⟩ => ?_
  simp
  refine ⟨fun h => ?_, fun h => ?_⟩
  · have h' : i < b.length := by omega
    refine ⟨a[i], by simp, b[i], by simp, ?_⟩
    refine Pur.d (SameMember_p _ _ (hd _ (List.getElem_mem h))) ?_
    simp [wrap_succ h ha]
    refine ⟨fun hne e => hne (by subst e; rfl), fun e => ⟨⟨h, ?_⟩, by omega⟩⟩
    rw [List.take_succ_eq_append_getElem h, List.take_succ_eq_append_getElem h', he, e]
  · rwa [List.take_of_length_le h, List.take_of_length_le (by omega)] at he
theorem rFind_p (l : List M) (w : W) (hl : l.length ≤ 1000000) : Pur E 17 [memsV l, str w] (intV (findI l w)) := by
  refine Pur.enter [] Tryd.func17 rfl Tryd.ntmps17 Tryd.results17 hmE (by kernel_rfl) (by simp) (by simp) fun σ hσ => ?_
  conv => arg 5; cbv
  simp
  refine loop_n hmE (by kernel_rfl) l.length (fun i => [(5, intV i)]) (fun i => i ≤ l.length ∧ ∀ m ∈ l.take i, m.name ≠ w) (Nat.le_refl _) hσ (by simp) (by simp) (by simp) fun i ⟨hi, he⟩ => ?_
  simp
  refine ⟨fun h => ⟨l[i], by simp, fun hw => ?_, fun hw => ?_⟩, fun h => ?_⟩
  · exact (findI_at h he hw).symm
  · refine ⟨wrap_succ h (by omega), ⟨h, ?_⟩, by omega⟩
    rw [List.take_succ_eq_append_getElem h]
    simp only [List.mem_append, List.mem_singleton]
    rintro m (hm | rfl)
    · exact he m hm
    · exact hw
  · rw [List.take_of_length_le h] at he
    exact (findI_none he).symm
theorem Find1_c (m : M) (w : W) (σ : Store) (n : Nat) (hn : σ.get n = some (.arr 9 0 [str w])) : ACalls E 35 [memV m, .rp n 0 0 0] σ fun a s => a = boolV (m.name == w) ∧ s = σ := by
  refine ACalls.enterA [] Tryd.func35 rfl Tryd.ntmps35 Tryd.results35 hmE (by kernel_rfl) (by simp) fun hσ => ?_
  conv => arg 5; cbv
  have hn' : ¬ n = σ.next := by have := (hσ _ _ hn).1; omega
  simp [hn, hn']
  exact Fin.pur hσ (by simp) (by simp) (by simp) ⟨rfl, rfl⟩
theorem IndexFunc_c (l : List M) (w : W) (hl : l.length ≤ 1000000) (σ : Store) (n : Nat) (hn : σ.get n = some (.arr 9 0 [str w])) : ACalls E 34 [memsV l, .fn (.func 35) [] [.rp n 0 0 0]] σ fun a s => a = intV (findI l w) ∧ s = σ := by
  refine ACalls.enterA [] Tryd.func34 rfl Tryd.ntmps34 Tryd.results34 hmE (by kernel_rfl) (by simp) fun hσ => ?_
  conv => arg 5; cbv
  have hn' := (hσ _ _ hn).1
  simp
  refine loop_n hmE (by kernel_rfl) l.length (fun i => [(8, intV i)]) (fun i => i ≤ l.length ∧ ∀ m ∈ l.take i, m.name ≠ w) (Nat.le_refl _) hσ (by simp) (by simp [hn']) (by simp) fun i ⟨hi, he⟩ => ?_
  simp
  refine ⟨fun h => ⟨l[i], by simp, ?_⟩, fun h => ?_⟩
  · refine (Find1_c _ w σ n hn).mono ?_
    rintro a s ⟨rfl, rfl⟩
    simp
    refine ⟨fun hw => Fin.eqv hσ (by simp [findI_at h he hw]) (by simp) (by simp), fun hw => ⟨wrap_succ h (by omega), ⟨h, ?_⟩, by omega⟩⟩
    rw [List.take_succ_eq_append_getElem h]
    simp only [List.mem_append, List.mem_singleton]
    rintro m (hm | rfl)
    · exact he m hm
    · exact hw
  · rw [List.take_of_length_le h] at he
    exact Fin.eqv hσ (by simp [findI_none he]) (by simp) (by simp)
theorem Find_p (l : List M) (w : W) (hl : l.length ≤ 1000000) : Pur E 13 [memsV l, str w] (intV (findI l w)) := by
  refine Pur.enter [] Tryd.func13 rfl Tryd.ntmps13 Tryd.results13 hmE (by kernel_rfl) (by simp) (by simp) fun σ hσ => ?_
  conv => arg 5; cbv
  simp
  refine (IndexFunc_c l w hl (σ.alloc (.arr 9 0 [str w])) σ.next (by simp)).mono ?_
  rintro a s ⟨rfl, rfl⟩
  simp
/-- Small sizes. -/
def few (l : List M) : Prop := l.length ≤ 100000 ∧ ∀ m ∈ l, m.data.length ≤ 1000000000
theorem clone_p (w : W) (hw : w.length ≤ 1000000000) : Pur E 41 [bytes w] (bytes w) := by
  refine Pur.enter [] Tryd.func41 rfl Tryd.ntmps41 Tryd.results41 hmE (by kernel_rfl) (by simp) (by simp) fun σ hσ => ?_
  conv => arg 5; cbv
  cases w with
  | nil => simp [aNilEq]
  | cons x w =>
    simp at hw
    simp [aNilEq]
    omega
theorem cloned_p (m : M) (hw : m.data.length ≤ 1000000000) : Pur E 32 [memV m] (memV m) := by
  refine Pur.enter [] Tryd.func32 rfl Tryd.ntmps32 Tryd.results32 hmE (by kernel_rfl) (by simp) (by simp) fun σ hσ => ?_
  conv => arg 5; cbv
  simp
  refine Pur.call (clone_p _ hw) ?_
  simp
theorem snoc_mem {l : List M} {i : Nat} {a : M} (h : l[i]? = some a) : List.take i (l.map memV) ++ [memV a] = List.take (i + 1) (l.map memV) := take_snoc h
theorem Copy_p (l : List M) (hl : few l) : Pur E 28 [memsV l] (memsV l) := by
  refine Pur.enter [3000003] Tryd.func28 rfl Tryd.ntmps28 Tryd.results28 hmE (by kernel_rfl) (by simp) (by simp) fun σ hσ => ?_
  conv => arg 5; cbv
  simp
  refine loop_x hmE (by kernel_rfl) (· + 1) 0 (fun i : Nat => [(4, intV i), (3, .lg σ.next ((l.map memV).take i))]) (fun i : Nat => σ.alloc (.log 25 i)) (fun i : Nat => i ≤ l.length) (fun i => l.length - i) (by simp) (fun i hi => by simp [hσ]) (by simp) (by simp) fun i hi => ?_
  simp [Nat.min_eq_left hi]
  refine ⟨fun h => ?_, fun h => List.take_of_length_le (by simpa using h)⟩
  obtain ⟨a, ha⟩ := get_ex h
  have h1 := hl.1
  have h2 := hl.2 a (List.mem_of_getElem? ha)
  have h3 := snoc_mem ha
  refine ⟨a, ha, by omega, by omega, ?_⟩
  split
  · rename_i h0
    exact ⟨by omega, by omega, ⟨by simpa [h0] using h3, wrap_succ h (by omega)⟩, by omega, by omega⟩
  · exact ⟨by omega, by omega, ⟨by simpa using h3, wrap_succ h (by omega)⟩, by omega, by omega⟩
theorem clones_p (l : List M) (hl : few l) : Pur E 30 [memsV l] (memsV l) := by
  refine Pur.enter [3000003] Tryd.func30 rfl Tryd.ntmps30 Tryd.results30 hmE (by kernel_rfl) (by simp) (by simp) fun σ hσ => ?_
  conv => arg 5; cbv
  simp
  refine loop_x hmE (by kernel_rfl) (· + 1) 0 (fun i : Nat => [(8, intV i), (3, .lg σ.next ((l.map memV).take i))]) (fun i : Nat => σ.alloc (.log 25 i)) (fun i : Nat => i ≤ l.length) (fun i => l.length - i) (by simp) (fun i hi => by simp [hσ]) (by simp) (by simp) fun i hi => ?_
  simp [Nat.min_eq_left hi]
  refine ⟨fun h => ?_, fun h => List.take_of_length_le (by simpa using h)⟩
  obtain ⟨a, ha⟩ := get_ex h
  have h1 := hl.1
  refine ⟨a, ha, ?_⟩
  refine Pur.call (cloned_p a (hl.2 a (List.mem_of_getElem? ha))) ?_
  simp [Nat.min_eq_left hi]
  exact ⟨by omega, by omega, ⟨by simpa using snoc_mem ha, wrap_succ h (by omega)⟩, by omega, by omega⟩
theorem rList_p (l : List M) (hl : l.length ≤ 1000000) : Pur E 26 [memsV l] (strs (l.map M.name)) := by
  refine Pur.enter [3000003] Tryd.func26 rfl Tryd.ntmps26 Tryd.results26 hmE (by kernel_rfl) (by simp) (by simp) fun σ hσ => ?_
  conv => arg 5; cbv
  simp
  refine loop_x hmE (by kernel_rfl) (· + 1) 0 (fun i : Nat => [(4, intV i), (3, .lg σ.next ((l.map fun m => str m.name).take i))]) (fun i : Nat => σ.alloc (.log 9 i)) (fun i : Nat => i ≤ l.length) (fun i => l.length - i) (by simp) (fun i hi => by simp [hσ]) (by simp) (by simp) fun i hi => ?_
  simp [Nat.min_eq_left hi]
  refine ⟨fun h => ?_, fun h => ?_⟩
  · obtain ⟨a, ha⟩ := get_ex h
    exact ⟨a, ha, by omega, by omega, ⟨take_snoc ha, wrap_succ h (by omega)⟩, by omega, by omega⟩
  · rw [List.take_of_length_le (by simpa using h)]
    rfl
/-- A place. -/
abbrev Pl := Int × W
def plV (p : Pl) : AV := .agg [intV p.1, str p.2]
attribute [simp] plV
/-- The index of a place, and the error. -/
def placeI (l : List M) (p : Pl) : Int × Int :=
  if p.1 < 0 ∨ 2 < p.1 then (0, 13) else if p.1 = 0 then (l.length, 0) else if findI l p.2 < 0 then (0, 11) else if p.1 = 2 then (findI l p.2 + 1, 0) else (findI l p.2, 0)
def pairV (x : Int × Int) : AV := .tup [intV x.1, intV x.2]
attribute [simp] pairV
theorem findI_lt {w : W} : ∀ (l : List M), findI l w < l.length
  | [] => by simp [findI]
  | m :: l => by have := findI_lt (w := w) l; simp only [findI, List.length_cons]; split <;> first | omega | (split <;> omega)
theorem place_p (l : List M) (p : Pl) (hl : l.length ≤ 1000000) : Pur E 38 [memsV l, plV p] (pairV (placeI l p)) := by
  obtain ⟨k, w⟩ := p
  refine Pur.enter [] Tryd.func38 rfl Tryd.ntmps38 Tryd.results38 hmE (by kernel_rfl) (by simp) (by simp) fun σ hσ => ?_
  conv => arg 5; cbv
  simp
  refine ⟨fun h => by simp [placeI, h], fun h0 => ⟨fun h => by simp [placeI, h], fun h1 => ⟨fun h => by simp [placeI, h], fun h2 => ?_⟩⟩⟩
  refine Pur.call (rFind_p l w hl) ?_
  have hg := findI_ge l w
  have hu := findI_lt (w := w) l
  have h3 : ¬ (k < 0 ∨ 2 < k) := by omega
  simp
  refine ⟨fun h => by simp [placeI, h, h2, h3], fun h => ⟨fun h4 => ?_, fun h4 => ?_⟩⟩
  · have h' : ¬ findI l w < 0 := by omega
    rw [wrap64_id (by omega) (by omega)]
    simp [placeI, h', h4]
  · have h' : ¬ findI l w < 0 := by omega
    simp [placeI, h', h2, h3, h4]
theorem known_p (p : Pl) : Pur E 37 [plV p] (boolV (decide (0 ≤ p.1 ∧ p.1 ≤ 2))) := by
  obtain ⟨k, w⟩ := p
  refine Pur.enter [] Tryd.func37 rfl Tryd.ntmps37 Tryd.results37 hmE (by kernel_rfl) (by simp) (by simp) fun σ hσ => ?_
  conv => arg 5; cbv
  simp
  refine ⟨fun h => ?_, fun h => by omega⟩
  rw [Bool.eq_iff_iff]
  simp
  omega
theorem m1_p (l : List M) (a : Int) : Pur E 62 [memsV l, intV a] (intV l.length) := by
  refine Pur.enter [] Tryd.func62 rfl Tryd.ntmps62 Tryd.results62 hmE (by kernel_rfl) (by simp) (by simp) fun σ hσ => ?_
  conv => arg 5; cbv
  simp
theorem m2_p (l : List M) (a : Int) : Pur E 63 [memsV l, intV a] (intV a) := by
  refine Pur.enter [] Tryd.func63 rfl Tryd.ntmps63 Tryd.results63 hmE (by kernel_rfl) (by simp) (by simp) fun σ hσ => ?_
  conv => arg 5; cbv
  simp
theorem m3_p (l : List M) (a : Int) (h0 : -1 ≤ a) (h1 : a ≤ 1000000) : Pur E 64 [memsV l, intV a] (intV (a + 1)) := by
  refine Pur.enter [] Tryd.func64 rfl Tryd.ntmps64 Tryd.results64 hmE (by kernel_rfl) (by simp) (by simp) fun σ hσ => ?_
  conv => arg 5; cbv
  simp
  exact wrap64_id (by omega) (by omega)
theorem index_p (l : List M) (p : Pl) (hl : l.length ≤ 1000000) : Pur E 31 [memsV l, plV p] (pairV (placeI l p)) := by
  obtain ⟨k, w⟩ := p
  refine Pur.enter [] Tryd.func31 rfl Tryd.ntmps31 Tryd.results31 hmE (by kernel_rfl) (by simp) (by simp) fun σ hσ => ?_
  conv => arg 5; cbv
  simp
  refine Pur.call (known_p (k, w)) ?_
  simp
  refine ⟨fun h => ?_, fun h => ?_⟩
  · have h' : k < 0 ∨ 2 < k := by omega
    simp [placeI, h']
  · intro h2
    have hk : k = 0 ∨ k = 1 ∨ k = 2 := by omega
    have hg := findI_ge l w
    have hu := findI_lt (w := w) l
    rcases hk with rfl | rfl | rfl
    · simp
      refine Pur.call (Find_p l w hl) ?_
      simp
      refine Pur.call (m1_p l _) ?_
      simp [placeI]
    · simp
      refine Pur.call (Find_p l w hl) ?_
      simp
      refine ⟨fun h => by simp [placeI, h], fun h => ?_⟩
      refine Pur.call (m2_p l _) ?_
      have h' : ¬ findI l w < 0 := by omega
      simp [placeI, h']
    · simp
      refine Pur.call (Find_p l w hl) ?_
      simp
      refine ⟨fun h => by simp [placeI, h], fun h => ?_⟩
      refine Pur.call (m3_p l _ hg (by omega)) ?_
      have h' : ¬ findI l w < 0 := by omega
      simp [placeI, h']
/-- A member put before an index. -/
def insL (l : List M) (k : Nat) (m : M) : List M := l.take k ++ m :: l.drop k
def woA (l : List M) (k i : Nat) : List M := (l.take i).eraseIdx k
theorem woA_ne {l : List M} {k i : Nat} {a : M} (h : l[i]? = some a) (hk : i ≠ k) : woA l k (i + 1) = woA l k i ++ [a] := by
  have hlt := (List.getElem?_eq_some_iff.1 h).1
  unfold woA
  rw [List.take_add_one, h, Option.toList_some]
  rcases Nat.lt_or_gt_of_ne hk with h1 | h1
  · rw [List.eraseIdx_of_length_le (by simp; omega), List.eraseIdx_of_length_le (by simp; omega)]
  · rw [List.eraseIdx_append_of_lt_length (by simp; omega)]
theorem woA_eq {l : List M} {i : Nat} (h : i < l.length) : woA l i (i + 1) = woA l i i := by
  unfold woA
  rw [List.take_succ_eq_append_getElem h, List.eraseIdx_append_of_length_le (by simp; omega), List.eraseIdx_of_length_le (l := l.take i) (by simp; omega)]
  simp [Nat.min_eq_left (Nat.le_of_lt h)]
theorem woA_len (l : List M) (k i : Nat) : (woA l k i).length ≤ i := by
  unfold woA
  have := List.length_eraseIdx_le (l.take i) k
  simp at this ⊢
  omega
theorem few_sub {l l' : List M} (h : few l) (hl : l'.length ≤ l.length) (hs : ∀ m ∈ l', m ∈ l) : few l' := ⟨Nat.le_trans hl h.1, fun m hm => h.2 m (hs m hm)⟩
theorem few_erase {l : List M} (h : few l) (k : Nat) : few (l.eraseIdx k) := few_sub h (List.length_eraseIdx_le _ _) fun m hm => List.mem_of_mem_eraseIdx hm
theorem without_p (l : List M) (k : Nat) (hl : few l) : Pur E 40 [memsV l, intV k] (memsV (l.eraseIdx k)) := by
  refine Pur.enter [3000005] Tryd.func40 rfl Tryd.ntmps40 Tryd.results40 hmE (by kernel_rfl) (by simp) (by simp) fun σ hσ => ?_
  conv => arg 5; cbv
  simp
  refine loop_x hmE (by kernel_rfl) (· + 1) 0 (fun i : Nat => [(6, intV i), (5, .lg σ.next ((woA l k i).map memV))]) (fun i : Nat => σ.alloc (.log 25 (woA l k i).length)) (fun i : Nat => i ≤ l.length) (fun i => l.length - i) (by simp) (fun i hi => by simp [hσ]) (by simp [woA]) (by simp [woA]) fun i hi => ?_
  have h1 := hl.1
  have h2 := woA_len l k i
  simp
  refine ⟨fun h => ⟨fun hne => ?_, fun he => ?_⟩, fun h => ?_⟩
  · obtain ⟨a, ha⟩ := get_ex h
    have := woA_ne ha (k := k) (by omega)
    exact ⟨a, ha, by omega, by omega, by simp [this], ⟨by simp [this], wrap_succ h (by omega)⟩, by omega, by omega⟩
  · have he' : i = k := by omega
    subst he'
    have := woA_eq h
    exact ⟨by simp [this], ⟨by simp [this], wrap_succ h (by omega)⟩, by omega, by omega⟩
  · have : woA l k i = l.eraseIdx k := by unfold woA; rw [List.take_of_length_le h]
    rw [this]
    refine Pur.call (Copy_p _ (few_erase hl k)) ?_
    simp
def insA (l : List M) (k : Nat) (m : M) (i : Nat) : List M := if k < i then insL (l.take i) k m else l.take i
theorem insA_succ {l : List M} {k i : Nat} (m : M) (hk : k ≤ l.length) (hi : i ≤ l.length) : insA l k m (i + 1) = insA l k m i ++ (if i = k then [m] else []) ++ (l[i]?).toList := by
  unfold insA insL
  rcases Nat.lt_trichotomy i k with h | h | h
  · rw [if_neg (by omega), if_neg (by omega), if_neg (by omega), List.take_add_one]; simp
  · subst h
    rw [if_pos (by omega), if_neg (by omega), if_pos rfl, List.take_add_one, List.take_append_of_le_length (by simp; omega), List.drop_append_of_le_length (by simp; omega)]
    simp [List.take_take]
  · rw [if_pos (by omega), if_pos (by omega), if_neg (by omega), List.take_add_one, List.take_append_of_le_length (by simp; omega), List.drop_append_of_le_length (by simp; omega)]
    simp
theorem insA_len (l : List M) (k : Nat) (m : M) (i : Nat) : (insA l k m i).length ≤ i + 1 := by
  unfold insA insL
  split <;> simp <;> omega
theorem insA_end (l : List M) (k : Nat) (m : M) {i : Nat} (hk : k ≤ l.length) (h : l.length < i) : insA l k m i = insL l k m := by
  unfold insA
  rw [if_pos (by omega), List.take_of_length_le (by omega)]
theorem few_ins {l : List M} {m : M} (h : few l) (h1 : l.length < 100000) (hm : m.data.length ≤ 1000000000) (k : Nat) : few (insL l k m) := by
  refine ⟨by simp [insL]; omega, fun x hx => ?_⟩
  simp only [insL, List.mem_append, List.mem_cons] at hx
  rcases hx with hx | rfl | hx
  · exact h.2 x (List.mem_of_mem_take hx)
  · exact hm
  · exact h.2 x (List.mem_of_mem_drop hx)
theorem insert_p (l : List M) (k : Nat) (m : M) (hl : few l) (hl2 : l.length < 100000) (hm : m.data.length ≤ 1000000000) (hk : k ≤ l.length) : Pur E 39 [memsV l, intV k, memV m] (memsV (insL l k m)) := by
  refine Pur.enter [3000007] Tryd.func39 rfl Tryd.ntmps39 Tryd.results39 hmE (by kernel_rfl) (by simp) (by simp) fun σ hσ => ?_
  conv => arg 5; cbv
  simp
  refine loop_x hmE (by kernel_rfl) (· + 1) 0 (fun i : Nat => [(8, intV i), (7, .lg (σ.next + 1) ((insA l k m i).map memV))]) (fun i : Nat => (σ.alloc (.arr 25 0 [memV m])).alloc (.log 25 (insA l k m i).length)) (fun i : Nat => i ≤ l.length + 1) (fun i => l.length + 1 - i) (by simp) (fun i hi => by simp; exact (hσ.alloc_arr (by simp)).alloc_log _ _) (by simp [insA]) (by simp [insA]) fun i hi => ?_
  have h2 := insA_len l k m i
  simp
  refine ⟨fun h => ⟨fun he => ?_, fun hne => ?_⟩, fun h => ?_⟩
  · have hs := insA_succ m hk h
    have he' : i = k := by omega
    rw [if_pos he'] at hs
    refine ⟨by omega, by omega, fun h3 => ?_, fun h3 => ?_⟩
    · obtain ⟨a, ha⟩ := get_ex h3
      rw [ha] at hs
      exact ⟨a, ha, by omega, by omega, by simp [hs], ⟨by simp [hs], wrap_succ (n := l.length + 1) (by omega) (by omega)⟩, by omega, by omega⟩
    · rw [List.getElem?_eq_none h3] at hs
      exact ⟨by simp [hs], ⟨by simp [hs], wrap_succ (n := l.length + 1) (by omega) (by omega)⟩, by omega, by omega⟩
  · have hs := insA_succ m hk h
    rw [if_neg (by omega)] at hs
    refine ⟨fun h3 => ?_, fun h3 => ?_⟩
    · obtain ⟨a, ha⟩ := get_ex h3
      rw [ha] at hs
      exact ⟨a, ha, by omega, by omega, by simp [hs], ⟨by simp [hs], wrap_succ (n := l.length + 1) (by omega) (by omega)⟩, by omega, by omega⟩
    · rw [List.getElem?_eq_none h3] at hs
      exact ⟨by simp [hs], ⟨by simp [hs], wrap_succ (n := l.length + 1) (by omega) (by omega)⟩, by omega, by omega⟩
  · rw [insA_end l k m hk (by omega)]
    refine Pur.call (Copy_p _ (few_ins hl hl2 hm k)) ?_
    simp
end Go.Proofs.YtnnhjaihjfdhbaaDoor
