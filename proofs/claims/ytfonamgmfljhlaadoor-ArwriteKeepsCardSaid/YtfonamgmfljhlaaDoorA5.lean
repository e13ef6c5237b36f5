/- Long names. No condition. -/
import Derived.Test.YtfonamgmfljhlaaDoorA4
set_option linter.unusedVariables false
set_option linter.unusedSimpArgs false
set_option linter.unnecessarySimpa false
namespace Go.Proofs.YtfonamgmfljhlaaDoor
open Go Go.AW
set_option maxRecDepth 100000
set_option maxHeartbeats 8000000

def validN (n : W) : Bool := decide (1 ≤ n.length ∧ n.length ≤ 255) && !hasAny n [47, 10, 0]
def shortN (n : W) : Bool := validN n && (decide (n.length ≤ 15) && !(n.getLast? == some 32))
theorem Valid_p (n : W) (hn : n.length ≤ 1000000) : Pur E 22 [str n] (boolV (validN n)) := by
  refine Pur.enter [] Tryd.func22 rfl Tryd.ntmps22 Tryd.results22 hmE (by kernel_rfl) (by simp) (by simp) fun σ hσ => ?_
  conv => arg 5; cbv
  simp
  by_cases h : 1 ≤ n.length ∧ n.length ≤ 255
  · simp [show (1 : Int) ≤ n.length by omega, show (n.length : Int) ≤ 255 by omega]
    refine ⟨⟨?_, fun h => by omega⟩, fun h => by omega⟩
    refine Pur.call (ContainsAny_p n [47, 10, 0] (by omega) (by simp) (by simp) (by simp)) ?_
    simp [validN, h]
  · have hf : validN n = false := by simp [validN, h]
    simp [hf]
    exact fun a b => by omega
theorem rValid_p (n : W) (hn : n.length ≤ 1000000) : Pur E 27 [str n] (boolV (validN n)) := by
  refine Pur.enter [] Tryd.func27 rfl Tryd.ntmps27 Tryd.results27 hmE (by kernel_rfl) (by simp) (by simp) fun σ hσ => ?_
  conv => arg 5; cbv
  simp
  by_cases h : 1 ≤ n.length ∧ n.length ≤ 255
  · have hf : validN n = !hasAny n [47, 10, 0] := by rw [validN, decide_eq_true h]; rfl
    have hne : n ≠ [] := by rintro rfl; simp at h
    simp [hne, show ¬ ((255 : Int) < (n.length : Int)) by omega, hf]
    refine fun _ => ?_
    refine loop_n hmE (by kernel_rfl) n.length (fun i => [(3, intV i)]) (fun i => i ≤ n.length ∧ hasAny (n.take i) [47, 10, 0] = false) (Nat.le_refl _) hσ (by simp [hasAny]) (by simp) (by simp) fun i ⟨hi, hno⟩ => ?_
    simp
    refine ⟨fun h6 => ?_, fun h6 => ?_⟩
    · obtain ⟨c, hc⟩ := get_ex h6
      have hcm := List.mem_of_getElem? hc
      have hsn : c = 47 ∨ c = 10 ∨ c = 0 → hasAny n [47, 10, 0] = true := fun h => by
        simp [hasAny]
        exact ⟨c, hcm, h⟩
      simp [hc, u8_10, u8_0, u8_47]
      refine ⟨h6, fun h7 => hsn (.inl h7), fun h7 => ⟨h6, fun h8 => hsn (.inr (.inl h8)), fun h8 => ⟨h6, fun h9 => hsn (.inr (.inr (UInt8.toNat_inj.1 h9))), fun h9 => ⟨wrap_succ h6 (by omega), ⟨h6, ?_⟩, by omega⟩⟩⟩⟩
      rw [List.take_add_one, hc]
      simp [hasAny] at hno ⊢
      exact ⟨hno, h7, h8, fun e => h9 (by rw [e]; rfl)⟩
    · rw [List.take_of_length_le h6] at hno
      exact hno
  · have hf : validN n = false := by simp [validN, h]
    rw [hf]
    refine ⟨fun _ => rfl, fun h1 => ⟨fun _ => rfl, fun h2 => absurd ⟨?_, by omega⟩ h⟩⟩
    rcases n with _ | ⟨x, n⟩
    · exact absurd rfl h1
    · simp
theorem short_end {n : W} (hv : validN n = true) (hl : n.length ≤ 15) : 0 ≤ IntKind.i64.wrap ((n.length : Int) - 1) ∧ IntKind.i64.wrap ((n.length : Int) - 1) < n.length ∧ (((n[(IntKind.i64.wrap ((n.length : Int) - 1)).toNat]?.getD 0).toNat : Int) != 32) = shortN n := by
  have h : 1 ≤ n.length ∧ n.length ≤ 255 := by simp [validN] at hv; exact hv.1
  obtain ⟨b, hb⟩ := get_ex (l := n) (i := n.length - 1) (by omega)
  have hb2 := last_get n h.1
  rw [hb] at hb2
  have hw : IntKind.i64.wrap ((n.length : Int) - 1) = (n.length : Int) - 1 := wrap64_id (by omega) (by omega)
  have hi : ((n.length : Int) - 1).toNat = n.length - 1 := by omega
  rw [hw, hi, hb]
  refine ⟨by omega, by omega, ?_⟩
  rw [shortN, hv, ← hb2, decide_eq_true hl, Bool.eq_iff_iff]
  simp
  rw [u8_32]
theorem Short_p (n : W) (hn : n.length ≤ 1000000) : Pur E 42 [str n] (boolV (shortN n)) := by
  refine Pur.enter [] Tryd.func42 rfl Tryd.ntmps42 Tryd.results42 hmE (by kernel_rfl) (by simp) (by simp) fun σ hσ => ?_
  conv => arg 5; cbv
  simp
  refine Pur.call (Valid_p n hn) ?_
  simp
  refine ⟨fun hv => ⟨fun h => short_end hv (by omega), fun h => ?_⟩, fun hv => by simp [shortN, hv]⟩
  simp [shortN]
  exact fun _ h1 => by omega
theorem rShort_p (n : W) (hn : n.length ≤ 1000000) : Pur E 29 [str n] (boolV (shortN n)) := by
  refine Pur.enter [] Tryd.func29 rfl Tryd.ntmps29 Tryd.results29 hmE (by kernel_rfl) (by simp) (by simp) fun σ hσ => ?_
  conv => arg 5; cbv
  simp
  refine Pur.call (rValid_p n hn) ?_
  simp
  refine ⟨fun hv => ⟨fun h => short_end hv (by omega), fun h => ?_⟩, fun hv => by simp [shortN, hv]⟩
  simp [shortN]
  exact fun _ h1 => by omega
/-- One name more: the table, the fields. -/
def bldS (a : W × List W) (n : W) : W × List W := if shortN n then (a.1, a.2 ++ [n ++ [47]]) else (a.1 ++ (n ++ [47, 10]), a.2 ++ [47 :: tx 10 a.1.length])
def bld (l : List W) : W × List W := l.foldl bldS ([], [])
theorem bld_snoc (l : List W) (n : W) : bld (l ++ [n]) = bldS (bld l) n := by simp [bld]
theorem bld_take {l : List W} {i : Nat} {n : W} (h : l[i]? = some n) : bld (l.take (i + 1)) = bldS (bld (l.take i)) n := by rw [List.take_add_one, h, Option.toList_some, bld_snoc]
def fewN (l : List W) : Prop := l.length ≤ 1000 ∧ ∀ n ∈ l, n.length ≤ 1000
theorem bld_len (l : List W) (hl : ∀ n ∈ l, n.length ≤ 1000) : (bld l).1.length ≤ 1002 * l.length ∧ (bld l).2.length = l.length := by
  induction l using rev_ind with
  | h0 => simp [bld]
  | h1 l c ih =>
    have := ih fun n hn => hl n (by simp [hn])
    have hc := hl c (by simp)
    rw [bld_snoc, bldS]
    split <;> simp <;> omega
def bldE (l : List W) : Int := if l.all validN then 0 else 6
def bldT (l : List W) : W := if l.all validN then (bld l).1 else []
def bldF (l : List W) : List W := if l.all validN then (bld l).2 else []
def bldV (l : List W) : AV := .tup [bytes (bldT l), strs (bldF l), intV (bldE l)]
attribute [simp] bldV
theorem Build_p (l : List W) (hl : fewN l) : Pur E 33 [strs l] (bldV l) := by
  refine Pur.enter [3000002, 3000003] Tryd.func33 rfl Tryd.ntmps33 Tryd.results33 hmE (by kernel_rfl) (by simp) (by simp) fun σ hσ => ?_
  conv => arg 5; cbv
  simp
  have hlen : ∀ i, (bld (l.take i)).1.length ≤ 1002 * 1000 ∧ (bld (l.take i)).2.length ≤ 1000 := fun i => by
    have h1 := bld_len (l.take i) fun n hn => hl.2 n (List.mem_of_mem_take hn)
    have h2 : (l.take i).length ≤ 1000 := by have := hl.1; simp; omega
    omega
  refine loop_x hmE (by kernel_rfl) (· + 1) 0 (fun i : Nat => [(9, intV i), (2, .lg σ.next ((bld (l.take i)).1.map byteV)), (3, .lg (σ.next + 1) ((bld (l.take i)).2.map str))]) (fun i : Nat => (σ.alloc (.log 5 (bld (l.take i)).1.length)).alloc (.log 9 (bld (l.take i)).2.length))
    (fun i : Nat => i ≤ l.length ∧ (l.take i).all validN = true) (fun i => l.length - i) (by simp) (fun i hi => ⟨by simp, by simp [hσ], ?_⟩) (by simp [bld]) (by simp [bld]) fun i hi => ?_
  · have := bel_lg (m := σ.next + 2) (i := σ.next) (by omega) (bld (l.take i)).1
    simp [this]
  obtain ⟨hi, hok⟩ := hi
  simp
  refine ⟨fun h => ?_, fun h => ?_⟩
  · obtain ⟨n, hn⟩ := get_ex h
    have hnm := List.mem_of_getElem? hn
    have hnl := hl.2 n hnm
    have hs := bld_take hn
    have h1 := hlen i
    have h2 := hlen (i + 1)
    have hll := hl.1
    refine ⟨n, hn, ?_⟩
    refine Pur.call (Valid_p n (by omega)) ?_
    simp
    refine ⟨fun hv => ?_, fun hv => ?_⟩
    · have ha : l.all validN = false := by simp; exact ⟨n, hnm, hv⟩
      simp [bldT, bldF, bldE, ha]
      exact (((Below.refl σ).alloc _).alloc _).alloc _ |>.alloc _
    · have hok' : ∀ x, x ∈ List.take (i + 1) l → validN x = true := by
        intro x hx
        rw [List.take_add_one, hn] at hx
        simp at hx
        simp at hok
        rcases hx with hx | rfl
        · exact hok x hx
        · exact hv
      refine Pur.call (Short_p n (by omega)) ?_
      simp
      refine ⟨fun hsh => ?_, fun hsh => ?_⟩
      · rw [hs, bldS, if_pos hsh] at h2 ⊢
        simp at h2 ⊢
        simp [show n.length ≤ 9223372036854775806 by omega]
        exact ⟨by omega, by omega, wrap_succ h (by omega), ⟨h, by simpa using hok'⟩, by omega⟩
      · rw [hs, bldS, if_neg (by simp [hsh])] at h2 ⊢
        simp at h2 ⊢
        have ht : (tx 10 (bld (l.take i)).1.length).length ≤ 21 := by
          rw [tx_len]
          exact nd_le _ _ (by omega) (by omega)
        refine Pur.call (Itoa_p _ (by omega)) ?_
        simp [show 1 + (tx 10 (bld (l.take i)).1.length).length ≤ 9223372036854775807 by omega]
        exact ⟨by omega, by omega, by omega, by omega, by omega, by omega, Below.refl _, wrap_succ h (by omega), ⟨h, by simpa using hok'⟩, by omega⟩
  · rw [List.take_of_length_le h] at hok ⊢
    simp only [bldT, bldF, bldE, hok, if_true]
    simp
/-- The table of names. -/
def tabL (l : List W) : W := l.flatMap fun n => n ++ [47, 10]
theorem tabL_snoc (l : List W) (n : W) : tabL (l ++ [n]) = tabL l ++ (n ++ [47, 10]) := by simp [tabL]
theorem tabL_len (l : List W) (hl : ∀ n ∈ l, n.length ≤ 1000) : (tabL l).length ≤ 1002 * l.length := by
  induction l with
  | nil => simp [tabL]
  | cons n l ih =>
    have h1 := hl n (by simp)
    have h2 := ih fun n hn => hl n (by simp [hn])
    simp [tabL] at h2 ⊢
    omega
theorem Table_p (l : List W) (hl : fewN l) : Pur E 31 [strs l] (bytes (tabL l)) := by
  refine Pur.enter [3000003] Tryd.func31 rfl Tryd.ntmps31 Tryd.results31 hmE (by kernel_rfl) (by simp) (by simp) fun σ hσ => ?_
  conv => arg 5; cbv
  simp
  have hlen : ∀ i, (tabL (l.take i)).length ≤ 1002 * 1000 := fun i => by
    have h1 := tabL_len (l.take i) fun n hn => hl.2 n (List.mem_of_mem_take hn)
    have h2 : (l.take i).length ≤ 1000 := by have := hl.1; simp; omega
    omega
  refine loop_x hmE (by kernel_rfl) (· + 1) 0 (fun i : Nat => [(4, intV i), (3, .lg σ.next ((tabL (l.take i)).map byteV))]) (fun i : Nat => σ.alloc (.log 5 (tabL (l.take i)).length)) (fun i : Nat => i ≤ l.length) (fun i => l.length - i) (by simp) (fun i hi => ⟨by simp, by simp [hσ], by have := bel_lg (Nat.lt_succ_self σ.next) (tabL (l.take i)); simpa using this⟩) (by simp [tabL]) (by simp [tabL]) fun i hi => ?_
  simp
  refine ⟨fun h => ?_, fun h => ?_⟩
  · obtain ⟨n, hn⟩ := get_ex h
    have hnl := hl.2 n (List.mem_of_getElem? hn)
    have h1 := hlen i
    have h2 := hlen (i + 1)
    have hll := hl.1
    have hs : tabL (l.take (i + 1)) = tabL (l.take i) ++ (n ++ [47, 10]) := by rw [List.take_add_one, hn, Option.toList_some, tabL_snoc]
    rw [hs]
    simp
    refine ⟨n, hn, by omega, by omega, by omega, by omega, Below.refl _, ⟨rfl, wrap_succ h (by omega)⟩, by omega, by omega⟩
  · rw [List.take_of_length_le h]
/-- The names that have no field of their own. -/
def longL (l : List W) : List W := l.filter fun n => !shortN n
theorem bld_fst (l : List W) : (bld l).1 = tabL (longL l) := by
  induction l using rev_ind with
  | h0 => rfl
  | h1 l c ih =>
    rw [bld_snoc, bldS, longL, List.filter_append]
    by_cases h : shortN c = true
    · simp [h, ih, longL]
    · simp [h, ih, longL, tabL]
theorem rBuild_p (l : List W) (hl : fewN l) : Pur E 18 [strs l] (bldV l) := by
  refine Pur.enter [3000005, 3000006] Tryd.func18 rfl Tryd.ntmps18 Tryd.results18 hmE (by kernel_rfl) (by simp) (by simp) fun σ hσ => ?_
  conv => arg 5; cbv
  simp
  have hlen : ∀ i, (bld (l.take i)).1.length ≤ 1002 * 1000 ∧ (bld (l.take i)).2.length ≤ 1000 ∧ fewN (longL (l.take i)) := fun i => by
    have h1 := bld_len (l.take i) fun n hn => hl.2 n (List.mem_of_mem_take hn)
    have h2 : (l.take i).length ≤ 1000 := by have := hl.1; simp; omega
    have h3 : (longL (l.take i)).length ≤ (l.take i).length := List.length_filter_le _ _
    exact ⟨by omega, by omega, by omega, fun n hn => hl.2 n (List.mem_of_mem_take (List.mem_filter.1 hn).1)⟩
  refine loop_x hmE (by kernel_rfl) (· + 1) 0 (fun i : Nat => [(7, intV i), (5, .lg σ.next ((longL (l.take i)).map str)), (6, .lg (σ.next + 1) ((bld (l.take i)).2.map str))]) (fun i : Nat => (σ.alloc (.log 9 (longL (l.take i)).length)).alloc (.log 9 (bld (l.take i)).2.length))
    (fun i : Nat => i ≤ l.length ∧ (l.take i).all validN = true) (fun i => l.length - i) (by simp) (fun i hi => ⟨by simp, by simp [hσ], by simp⟩) (by simp [bld, longL]) (by simp [bld, longL]) fun i hi => ?_
  obtain ⟨hi, hok⟩ := hi
  simp
  refine ⟨fun h => ?_, fun h => ?_⟩
  · obtain ⟨n, hn⟩ := get_ex h
    have hnm := List.mem_of_getElem? hn
    have hnl := hl.2 n hnm
    have hs := bld_take hn
    have h1 := hlen i
    have h2 := hlen (i + 1)
    have hll := hl.1
    have hL : longL (l.take (i + 1)) = longL (l.take i) ++ (if shortN n then [] else [n]) := by
      rw [List.take_add_one, hn, Option.toList_some, longL, List.filter_append]
      cases hc : shortN n <;> simp [longL, hc]
    refine ⟨n, hn, ?_⟩
    refine Pur.call (rValid_p n (by omega)) ?_
    simp
    refine ⟨fun hv => ?_, fun hv => ?_⟩
    · have ha : l.all validN = false := by simp; exact ⟨n, hnm, hv⟩
      simp [bldT, bldF, bldE, ha]
    · have hok' : ∀ x, x ∈ List.take (i + 1) l → validN x = true := by
        intro x hx
        rw [List.take_add_one, hn] at hx
        simp at hx
        simp at hok
        rcases hx with hx | rfl
        · exact hok x hx
        · exact hv
      refine ⟨n, hn, ?_⟩
      refine Pur.call (rShort_p n (by omega)) ?_
      simp
      refine ⟨fun hsh => ?_, fun hsh => ?_⟩
      · rw [hL, if_pos hsh]
        rw [hs, bldS, if_pos hsh] at h2 ⊢
        simp at h2 ⊢
        refine ⟨n, hn, ?_⟩
        simp [show n.length ≤ 9223372036854775806 by omega]
        exact ⟨by omega, by omega, wrap_succ h (by omega), ⟨h, by simpa using hok'⟩, by omega⟩
      · rw [hL, if_neg (by simp [hsh])]
        rw [hs, bldS, if_neg (by simp [hsh])] at h2 ⊢
        simp at h2 ⊢
        have ht : (tx 10 (bld (l.take i)).1.length).length ≤ 21 := by
          rw [tx_len]
          exact nd_le _ _ (by omega) (by omega)
        refine Pur.call (Table_p _ h1.2.2) ?_
        rw [← bld_fst]
        simp
        refine Pur.call (Text_p 10 (.inr rfl) _ (by omega)) ?_
        simp [show 1 + (tx 10 (bld (l.take i)).1.length).length ≤ 9223372036854775807 by omega]
        have h3 := h1.2.2.1
        exact ⟨by omega, by omega, n, hn, by omega, by omega, ⟨rfl, wrap_succ h (by omega)⟩, ⟨h, by simpa using hok'⟩, by omega⟩
  · rw [List.take_of_length_le h] at hok ⊢
    have hll := hlen i
    rw [List.take_of_length_le h] at hll
    refine Pur.call (Table_p _ hll.2.2) ?_
    rw [← bld_fst]
    simp only [bldT, bldF, bldE, hok, if_true]
    simp
end Go.Proofs.YtfonamgmfljhlaaDoor
