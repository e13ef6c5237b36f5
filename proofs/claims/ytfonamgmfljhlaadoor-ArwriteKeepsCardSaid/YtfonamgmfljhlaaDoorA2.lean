/- The library's functions that are reached. No condition. -/
import Derived.Test.YtfonamgmfljhlaaDoorA1
set_option linter.unusedVariables false
set_option linter.unusedSimpArgs false
set_option linter.unnecessarySimpa false
namespace Go.Proofs.YtfonamgmfljhlaaDoor
open Go Go.AW
set_option maxRecDepth 100000
set_option maxHeartbeats 8000000

theorem dec_tx (n : Nat) : Lib.decDigits n = tx 10 n := by
  induction n using Nat.strongRecOn with
  | _ n ih =>
    rw [Lib.decDigits, tx]
    by_cases h : n < 10
    · rw [dif_pos h, dif_pos (.inl h), Nat.mod_eq_of_lt h]; rfl
    · rw [dif_neg h, dif_neg (by omega), ih _ (by omega)]; rfl
theorem E_tab : E.G 1 = some (Lib.pow10Tab.map fun z => .c (.int .u64 z)) := by simp [E]
theorem grown_grow (w : World) (k : Nat) (os : Array Obj) : w.grownBy (Go.Sort.grow (w.drewN k) os) none := by
  refine ⟨rfl, rfl, rfl, ?_, fun i hi _ => ?_⟩
  · show w.heap.size ≤ (w.heap ++ os).size
    simp
  · show (w.heap ++ os)[i]? = _
    rw [Array.getElem?_append_left hi]
theorem grown_alloc (w : World) (o : Obj) : w.grownBy (w.alloc o) none := ⟨rfl, rfl, rfl, by simp, fun i hi _ => (MapKept.heap_alloc w o).2 i hi⟩
theorem grown_trans {w w' w2 : World} (h : w.grownBy w' none) (k : w'.grownBy w2 none) : w.grownBy w2 none := ⟨k.os.trans h.os, k.tape.trans h.tape, k.output.trans h.output, Nat.le_trans h.size k.size, fun i hi hn => (k.block i (Nat.lt_of_lt_of_le hi h.size) hn).trans (h.block i hi hn)⟩
theorem Itoa_p (n : Nat) (hn : n ≤ 9223372036854775807) : Pur E 43 [intV n] (str (tx 10 n)) := by
  refine Pur.lib (E := E) [.int .i64 n] rfl fun Γ σ w hr => (Go.Proofs.Tryd.strconv_Itoa n (by omega) (by omega) w (hr.tab (by kernel_rfl) E_tab)).mono ?_
  rintro e w' ⟨rfl, k, os, rfl⟩
  refine ⟨?_, ?_⟩
  · rw [Lib.itoa, if_neg (by omega), Int.toNat_natCast, dec_tx]; rfl
  · exact grown_grow w k os
theorem rep_eq (n : Nat) : Lib.repeatL [32] n = List.replicate n 32 := by
  induction n with
  | zero => rfl
  | succ n ih => rw [Lib.repeatL, ih]; rfl
theorem Repeat_p (n : Nat) (hn : n ≤ 1000) : Pur E 35 [str [32], intV n] (str (List.replicate n 32)) := by
  refine Pur.lib (E := E) [.string (bs [32]), .int .i64 n] rfl fun Γ σ w hr => (Go.Proofs.Tryd.strings_Repeat (bs [32]) n w (by omega) (by simp; omega)).mono ?_
  rintro e w' ⟨rfl, h⟩
  refine ⟨?_, grown_of_below h⟩
  rw [bs_data, rep_eq]; rfl
theorem IndexByte_p (s : W) (c : UInt8) : Pur E 69 [str s, .c (.int .u8 c.toNat)] (intV (Lib.indexByte s c)) := by
  refine Pur.lib (E := E) [.string (bs s), .int .u8 c.toNat] rfl fun Γ σ w hr => (Go.Proofs.Tryd.strings_IndexByte (bs s) c.toNat w).mono ?_
  rintro e w' ⟨rfl, rfl⟩
  refine ⟨?_, grown_refl _⟩
  simp
theorem should_p (n : Int) : Pur E 59 [intV n] (boolV (decide (8 < n))) := by
  refine Pur.lib (E := E) [.int .i64 n] rfl fun Γ σ w hr => (Go.Proofs.Tryd.strings_shouldUseASCIISet n w).mono ?_
  rintro e w' ⟨rfl, rfl⟩
  exact ⟨rfl, grown_refl _⟩
theorem long_p (s m : W) (h8 : 8 < s.length) (hs : s.length < 4294967281) (h2 : 2 ≤ m.length) (hm : m.length < 4294967281) (ha : ∀ b ∈ m, b.toNat < 128) : Pur E 41 [str s, str m] (intV (Lib.indexAny s m)) := by
  refine Pur.lib (E := E) [.string (bs s), .string (bs m)] rfl fun Γ σ w hr => (Go.Proofs.Tryd.strings_IndexAny_long (zero_of_info (n := 256) (by kernel_rfl)).1 (bs s) (bs m) w (by simpa using h2) (by simpa using h8) (by simpa using hs) (by simpa using hm) (fun j b hb => ha b (List.mem_of_getElem? (by simpa using hb)))).mono ?_
  rintro e w' ⟨rfl, rfl⟩
  exact ⟨rfl, grown_trans (grown_alloc _ _) (grown_alloc _ _)⟩
theorem valid_p (r : Int) : Pur E 70 [.c (.int .i32 r)] (boolV (Lib.validRune r)) := by
  refine Pur.lib (E := E) [.int .i32 r] rfl fun Γ σ w hr => (Go.Proofs.Tryd.utf8_ValidRune r w).mono ?_
  rintro e w' ⟨rfl, rfl⟩
  exact ⟨rfl, grown_refl _⟩
theorem bs_get {s : W} {k : Nat} {b : UInt8} (h : s[k]? = some b) : (bs s).get! k = b := by
  have hk := (List.getElem?_eq_some_iff.1 h).1
  show (s.toArray)[k]! = b
  simp [h]
/-- What a step of a range over a string reads. -/
theorem dec_lo {s : W} {k : Nat} {b : UInt8} (h : s[k]? = some b) (hb : b.toNat < 128) : Utf8.decode (bs s) k = (b.toNat, 1) := by
  have hk := (List.getElem?_eq_some_iff.1 h).1
  unfold Utf8.decode
  simp only [Nat.add_zero, bs_get h]
  rw [if_pos hb]
theorem dec_hi {s : W} {k : Nat} {b : UInt8} (h : s[k]? = some b) (hb : 128 ≤ b.toNat) : 128 ≤ (Utf8.decode (bs s) k).1 ∧ Utf8.valid (Utf8.decode (bs s) k).1 = true ∧ 1 ≤ (Utf8.decode (bs s) k).2 ∧ k + (Utf8.decode (bs s) k).2 ≤ s.length ∧ ∀ j y, j < (Utf8.decode (bs s) k).2 → s[k + j]? = some y → 128 ≤ y.toNat := by
  have hk := (List.getElem?_eq_some_iff.1 h).1
  have h0 : ∀ j y, j < 1 → s[k + j]? = some y → 128 ≤ y.toNat := fun j y hj hy => by
    obtain rfl : j = 0 := by omega
    rw [Nat.add_zero, h] at hy; cases hy; exact hb
  have hc : ∀ j y, (decide (k + j < (bs s).size) && ((bs s).get! (k + j)).toNat / 64 == 2) = true → s[k + j]? = some y → 128 ≤ y.toNat := fun j y hj hy => by
    rw [bs_get hy] at hj
    simp at hj
    omega
  have hlen : ∀ j, (decide (k + j < (bs s).size) && ((bs s).get! (k + j)).toNat / 64 == 2) = true → k + (j + 1) ≤ s.length := fun j hj => by
    simp at hj
    omega
  have he : 128 ≤ Utf8.runeError ∧ Utf8.valid Utf8.runeError = true := by decide
  unfold Utf8.decode
  simp only [Nat.add_zero, bs_get h]
  rw [if_neg (by omega)]
  split
  · rename_i c1
    simp only [Bool.and_eq_true] at c1
    split
    · rename_i c2
      refine ⟨c2, ?_, by simp, hlen 1 (by simpa using c1.2), fun j y hj hy => ?_⟩
      · simp [Utf8.valid]; omega
      · match j, hj with
        | 0, _ => exact h0 0 y (by omega) hy
        | 1, _ => exact hc 1 y (by simpa using c1.2) hy
    · exact ⟨he.1, he.2, by simp, by simp; omega, h0⟩
  · split
    · rename_i c1
      simp only [Bool.and_eq_true] at c1
      split
      · rename_i c2
        simp only [Bool.and_eq_true, decide_eq_true_eq] at c2
        refine ⟨by omega, c2.2, by simp, hlen 2 (by simpa using c1.2), fun j y hj hy => ?_⟩
        match j, hj with
        | 0, _ => exact h0 0 y (by omega) hy
        | 1, _ => exact hc 1 y (by simpa using c1.1.2) hy
        | 2, _ => exact hc 2 y (by simpa using c1.2) hy
      · exact ⟨he.1, he.2, by simp, by simp; omega, h0⟩
    · split
      · rename_i c1
        simp only [Bool.and_eq_true] at c1
        split
        · rename_i c2
          simp only [Bool.and_eq_true, decide_eq_true_eq] at c2
          refine ⟨by omega, c2.2, by simp, hlen 3 (by simpa using c1.2), fun j y hj hy => ?_⟩
          match j, hj with
          | 0, _ => exact h0 0 y (by omega) hy
          | 1, _ => exact hc 1 y (by simpa using c1.1.1.2) hy
          | 2, _ => exact hc 2 y (by simpa using c1.1.2) hy
          | 3, _ => exact hc 3 y (by simpa using c1.2) hy
        · exact ⟨he.1, he.2, by simp, by simp; omega, h0⟩
      · exact ⟨he.1, he.2, by simp, by simp; omega, h0⟩
/-- The bytes of a rune beyond ASCII. -/
theorem enc_hi {c : Nat} (h : 128 ≤ c) (hv : Utf8.valid c = true) : ∃ l z, Utf8.encode c = bs (l ++ [z]) ∧ 1 ≤ l.length ∧ l.length ≤ 3 ∧ 128 ≤ z.toNat := by
  have hc : c < 1114112 := by simp [Utf8.valid] at hv; omega
  have hz : 128 ≤ (UInt8.ofNat (0x80 + c % 64)).toNat := by simp; omega
  unfold Utf8.encode
  rw [if_pos hv]
  simp only [Int.toNat_natCast]
  rw [if_neg (by omega)]
  split
  · exact ⟨[_], _, rfl, by simp, by simp, hz⟩
  · split
    · exact ⟨[_, _], _, rfl, by simp, by simp, hz⟩
    · exact ⟨[_, _, _], _, rfl, by simp, by simp, hz⟩
theorem byte_no {m : W} (ha : ∀ b ∈ m, b.toNat < 128) {z : UInt8} (hz : 128 ≤ z.toNat) : Lib.indexByte m z = -1 := by
  induction m with
  | nil => rfl
  | cons b m ih =>
    have hb := ha b (by simp)
    have : ¬ b = z := by rintro rfl; omega
    have hi := ih fun b hb => ha b (by simp [hb])
    simp [Lib.indexByte, this, hi]
theorem Rune_err (m : W) (ha : ∀ b ∈ m, b.toNat < 128) (hm : m.length ≤ 1000000) : Pur E 58 [str m, .c (.int .i32 65533)] (intV (-1)) := by
  refine Pur.enter [] Tryd.func58 rfl Tryd.ntmps58 Tryd.results58 hmE (by kernel_rfl) (by simp) (by simp) fun σ hσ => ?_
  conv => arg 5; cbv
  simp
  refine loop_x hmE (by kernel_rfl) (· + 1) 0 (fun i : Nat => []) (fun i : Nat => σ.alloc (.it (.stringIter (bs m) i))) (fun i : Nat => i ≤ m.length) (fun i => m.length - i) (by simp) (fun i hi => by simp [hσ]) (by simp) (by simp) fun i hi => ?_
  simp
  intro h
  have hd := dec_lo (List.getElem?_eq_getElem h) (ha _ (List.getElem_mem h))
  have hb := ha _ (List.getElem_mem h)
  rw [hd]
  exact ⟨by simp; omega, fun _ => ⟨Below.refl _, by omega, by omega⟩⟩
theorem Rune_hi (m : W) (c : Nat) (h : 128 ≤ c) (hv : Utf8.valid c = true) (hne : c ≠ 65533) (ha : ∀ b ∈ m, b.toNat < 128) (hm : m.length ≤ 1000000) : Pur E 58 [str m, .c (.int .i32 c)] (intV (-1)) := by
  obtain ⟨l, z, he, h1, h2, h3⟩ := enc_hi h hv
  have hval : Lib.validRune (c : Int) = true := by simp [Utf8.valid] at hv; simp [Lib.validRune]; omega
  refine Pur.enter [] Tryd.func58 rfl Tryd.ntmps58 Tryd.results58 hmE (by kernel_rfl) (by simp) (by simp) fun σ hσ => ?_
  conv => arg 5; cbv
  simp [show ¬ ((c : Int) < 128) by omega, show (128 : Int) ≤ c by omega, show ¬ (c : Int) = 65533 by omega]
  refine Pur.call (valid_p c) ?_
  have hw : IntKind.i64.wrap ((l.length : Int) + 1 - 1) = (l.length : Int) := wrap64_id (by omega) (by omega) |>.trans (by omega)
  simp (disch := omega) [hval, he, wrap64_id]
  refine loop_x hmE (by kernel_rfl) id () (fun _ => []) (fun _ => σ) (fun _ => True) (fun _ => 0) trivial (fun _ _ => by simp [hσ]) (by simp) (by simp) fun _ _ => ?_
  simp
  intro h4
  have hw2 : IntKind.i64.wrap ((l.length : Int) + 1) = (l.length : Int) + 1 := wrap64_id (by omega) (by omega)
  obtain ⟨b, hb⟩ := get_ex h4
  have hb' := ha b (List.mem_of_getElem? hb)
  have hne : ¬ ((b.toNat : Int) = (z.toNat : Int)) := by omega
  simp [hw2, hb, hne]
  refine ⟨h4, by omega, by omega, by omega, by omega, ?_⟩
  refine Pur.d (IndexByte_p _ z) ?_
  have hno := byte_no (m := List.take (List.length m - (l.length + 1)) (List.drop (l.length + 1) m)) (fun b hb => ha b (List.mem_of_mem_drop (List.mem_of_mem_take hb))) h3
  simp [hno]
theorem Rune_lo (m : W) (c : UInt8) (h : c.toNat < 128) : Pur E 58 [str m, .c (.int .i32 c.toNat)] (intV (Lib.indexByte m c)) := by
  refine Pur.lib (E := E) [.string (bs m), .int .i32 c.toNat] rfl fun Γ σ w hr => (Go.Proofs.Tryd.strings_IndexRune_ascii (bs m) c.toNat w (by omega) (by omega)).mono ?_
  rintro e w' ⟨rfl, rfl⟩
  refine ⟨?_, grown_refl _⟩
  simp
theorem byte_in {m : W} {c : UInt8} : 0 ≤ Lib.indexByte m c ↔ c ∈ m := by
  induction m with
  | nil => simp [Lib.indexByte]
  | cons b m ih =>
    have hg := Lib.indexByte_ge m c
    simp only [Lib.indexByte]
    split
    · rename_i h; simp at h; simp [h]
    · rename_i h
      simp at h
      split
      · rename_i h2
        simp at h2
        have : c ∉ m := fun hc => by have := ih.2 hc; omega
        simp [this]
        exact fun e => h e.symm
      · rename_i h2
        simp at h2
        have : c ∈ m := ih.1 (by omega)
        simp [this]; omega
theorem short_p (s m : W) (h8 : s.length ≤ 8) (h2 : 2 ≤ m.length) (hm : m.length ≤ 1000000) (ha : ∀ b ∈ m, b.toNat < 128) : Pur E 41 [str s, str m] (intV (Lib.indexAny s m)) := by
  have hne : m ≠ [] := by rintro rfl; simp at h2
  refine Pur.enter [] Tryd.func41 rfl Tryd.ntmps41 Tryd.results41 hmE (by kernel_rfl) (by simp) (by simp) fun σ hσ => ?_
  conv => arg 5; cbv
  simp [hne, show ¬ m.length = 1 by omega]
  refine ⟨fun h => by omega, fun _ => ?_⟩
  refine Pur.call (should_p s.length) ?_
  simp [show ¬ ((8 : Int) < (s.length : Int)) by omega]
  refine loop_x hmE (by kernel_rfl) (fun i => i + (Utf8.decode (bs s) i).2) 0 (fun i : Nat => []) (fun i : Nat => σ.alloc (.it (.stringIter (bs s) i))) (fun i : Nat => Lib.NoAny s m i ∧ i ≤ s.length) (fun i => s.length - i) ⟨Lib.NoAny.zero s m, by omega⟩ (fun i hi => by simp [hσ]) (by simp) (by simp) fun i hi => ?_
  obtain ⟨hno, hi⟩ := hi
  simp
  split
  · rename_i h
    obtain ⟨b, hb⟩ := get_ex h
    by_cases hlo : b.toNat < 128
    · have hd := dec_lo hb hlo
      rw [hd]
      refine Pur.call (Rune_lo m b hlo) ?_
      have hin := byte_in (m := m) (c := b)
      simp
      refine ⟨fun h0 => ?_, fun h0 => ⟨⟨?_, h⟩, by omega⟩⟩
      · exact (Lib.indexAny_hit hno hb (by simpa using hin.1 h0)).symm
      · refine hno.succ hb ?_
        simp
        exact fun hc => by have := hin.2 hc; omega
    · obtain ⟨d1, d2, d3, d5, d4⟩ := dec_hi hb (by omega)
      generalize hdd : Utf8.decode (bs s) i = d at *
      have hrun : Pur E 58 [str m, .c (.int .i32 d.1)] (intV (-1)) := by
        by_cases he : d.1 = 65533
        · rw [he]; exact Rune_err m ha hm
        · exact Rune_hi m d.1 d1 d2 he ha hm
      refine Pur.call hrun ?_
      simp
      refine ⟨⟨fun j y hj hy => ?_, d5⟩, by omega⟩
      by_cases hji : j < i
      · exact hno j y hji hy
      · have := d4 (j - i) y (by omega) (by rw [show i + (j - i) = j by omega]; exact hy)
        simp
        exact fun hc => by have := ha y hc; omega
  · rename_i h
    have : i = s.length := by omega
    subst this
    exact (Lib.indexAny_none hno).symm
theorem IndexAny_p (s m : W) (hs : s.length ≤ 1000000000) (h2 : 2 ≤ m.length) (hm : m.length ≤ 1000000) (ha : ∀ b ∈ m, b.toNat < 128) : Pur E 41 [str s, str m] (intV (Lib.indexAny s m)) := by
  by_cases h : s.length ≤ 8
  · exact short_p s m h h2 hm ha
  · exact long_p s m (by omega) (by omega) h2 (by omega) ha
theorem any_iff {s m : W} : 0 ≤ Lib.indexAny s m ↔ ∃ b ∈ s, b ∈ m := by
  induction s with
  | nil => simp [Lib.indexAny]
  | cons b s ih =>
    have hg := Lib.indexAny_ge m s
    simp only [Lib.indexAny]
    split
    · rename_i h; simp at h; simp [h]
    · rename_i h
      simp at h
      split
      · rename_i h2
        simp at h2
        have : ¬ ∃ b ∈ s, b ∈ m := fun hc => by have := ih.2 hc; omega
        simp at this
        simp [h]
        exact this
      · rename_i h2
        simp at h2
        obtain ⟨c, h3, h4⟩ := ih.1 (by omega)
        simp
        exact ⟨fun _ => .inr ⟨c, h3, h4⟩, fun _ => by omega⟩
/-- What 'ContainsAny' answers. -/
def hasAny (s m : W) : Bool := s.any fun b => m.contains b
theorem ContainsAny_p (s m : W) (hs : s.length ≤ 1000000000) (h2 : 2 ≤ m.length) (hm : m.length ≤ 1000000) (ha : ∀ b ∈ m, b.toNat < 128) : Pur E 32 [str s, str m] (boolV (hasAny s m)) := by
  refine Pur.enter [] Tryd.func32 rfl Tryd.ntmps32 Tryd.results32 hmE (by kernel_rfl) (by simp) (by simp) fun σ hσ => ?_
  conv => arg 5; cbv
  simp
  refine Pur.call (IndexAny_p s m hs h2 hm ha) ?_
  simp
  rw [Bool.eq_iff_iff]
  simp [hasAny, any_iff]
end Go.Proofs.YtfonamgmfljhlaaDoor
