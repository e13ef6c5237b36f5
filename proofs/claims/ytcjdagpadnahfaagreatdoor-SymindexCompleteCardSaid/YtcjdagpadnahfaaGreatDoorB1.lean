/- Objects: numbers of four bytes, which symbols are valid. No condition. -/
import Derived.Test.YtcjdagpadnahfaaGreatDoorA2
import Derived.Test.YtcjdagpadnahfaaGreatDoorGP
set_option linter.unusedVariables false
set_option linter.unusedSimpArgs false
set_option linter.unnecessarySimpa false
namespace Go.Proofs.YtcjdagpadnahfaaGreatDoor
open Go Go.AW
set_option maxRecDepth 100000
set_option maxHeartbeats 8000000

theorem hpE : ∀ a s, ¬ E.pan a s := fun _ _ h => h
theorem Index_p (s : W) (c : UInt8) : Pur E 123 [str s, str [c]] (intV (Lib.indexByte s c)) := by
  refine Pur.lib (E := E) [.string (bs s), .string (bs [c])] rfl fun Γ σ w hr => (Go.Proofs.Tryz.strings_Index_one (bs s) c w).mono ?_
  rintro e w' ⟨rfl, rfl⟩
  exact ⟨rfl, grown_refl _⟩
theorem Contains_p (s : W) : Pur E 97 [str s, str [0]] (boolV (s.contains 0)) := by
  have h : (0 ≤ Lib.indexByte s 0) ↔ 0 ∈ s := byte_in
  refine Pur.enter [] Tryz.func97 rfl Tryz.ntmps97 Tryz.results97 hmE (by kernel_rfl) (by simp) (by simp) fun σ hσ => ?_
  conv => arg 5; cbv
  simp
  refine Pur.call (Index_p s 0) ?_
  simp
  exact h
theorem b4 {b : W} (h : 4 ≤ b.length) : ∃ b0 b1 b2 b3, b[0]? = some b0 ∧ b[1]? = some b1 ∧ b[2]? = some b2 ∧ b[3]? = some b3 := by
  obtain ⟨b0, h0⟩ := get_ex (l := b) (i := 0) (by omega)
  obtain ⟨b1, h1⟩ := get_ex (l := b) (i := 1) (by omega)
  obtain ⟨b2, h2⟩ := get_ex (l := b) (i := 2) (by omega)
  obtain ⟨b3, h3⟩ := get_ex (l := b) (i := 3) (by omega)
  exact ⟨b0, b1, b2, b3, h0, h1, h2, h3⟩
theorem get_p (b : W) (h : 4 ≤ b.length) : Pur E 125 [bytes b] (intV (num4 b)) := by
  obtain ⟨b0, b1, b2, b3, h0, h1, h2, h3⟩ := b4 h
  have l0 := b0.toNat_lt
  have l1 := b1.toNat_lt
  have l2 := b2.toNat_lt
  have l3 := b3.toNat_lt
  have hn : num4 b = ((b0.toNat * 256 + b1.toNat) * 256 + b2.toNat) * 256 + b3.toNat := by simp [num4, h0, h1, h2, h3]
  have e0 : IntKind.i64.wrap ((b0.toNat : Int) * 16777216) = ((b0.toNat * 16777216 : Nat) : Int) := by rw [wrap64_id (by omega) (by omega)]; omega
  have e1 : IntKind.i64.wrap ((b1.toNat : Int) * 65536) = ((b1.toNat * 65536 : Nat) : Int) := by rw [wrap64_id (by omega) (by omega)]; omega
  have e2 : IntKind.i64.wrap ((b2.toNat : Int) * 256) = ((b2.toNat * 256 : Nat) : Int) := by rw [wrap64_id (by omega) (by omega)]; omega
  have c0 : IntKind.i64.wrap (b0.toNat : Int) = b0.toNat := wrap64_id (by omega) (by omega)
  have c1 : IntKind.i64.wrap (b1.toNat : Int) = b1.toNat := wrap64_id (by omega) (by omega)
  have c2 : IntKind.i64.wrap (b2.toNat : Int) = b2.toNat := wrap64_id (by omega) (by omega)
  have c3 : IntKind.i64.wrap (b3.toNat : Int) = b3.toNat := wrap64_id (by omega) (by omega)
  have g := get4 b0.toNat b1.toNat b2.toNat b3.toNat l1 l2 l3
  refine Pur.enter [] Tryz.func125 rfl Tryz.ntmps125 Tryz.results125 hmE (by kernel_rfl) (by simp) (by simp) fun σ hσ => ?_
  conv => arg 5; cbv
  simp [h0, h1, h2, h3, c0, c1, c2, c3]
  have hbits : IntKind.i64.bits = 64 := rfl
  have m64 : ∀ n : Nat, n < 9223372036854775808 → (IntKind.i64.wrap (n : Int) % 2 ^ IntKind.i64.bits).toNat = n := fun n hn => by
    rw [wrap64_id (by omega) (by omega), hbits]; omega
  have s0 : (IntKind.i64.wrap ((b0.toNat : Int) * 2 ^ min 24 IntKind.i64.bits) % 2 ^ IntKind.i64.bits).toNat = b0.toNat * 16777216 := by
    have := m64 (b0.toNat * 16777216) (by omega)
    rw [← this, hbits]; simp
  have s1 : (IntKind.i64.wrap ((b1.toNat : Int) * 2 ^ min 16 IntKind.i64.bits) % 2 ^ IntKind.i64.bits).toNat = b1.toNat * 65536 := by
    have := m64 (b1.toNat * 65536) (by omega)
    rw [← this, hbits]; simp
  have s2 : (IntKind.i64.wrap ((b2.toNat : Int) * 2 ^ min 8 IntKind.i64.bits) % 2 ^ IntKind.i64.bits).toNat = b2.toNat * 256 := by
    have := m64 (b2.toNat * 256) (by omega)
    rw [← this, hbits]; simp
  have s3 : b3.toNat % 2 ^ IntKind.i64.bits = b3.toNat := by rw [hbits]; omega
  have o1 := or_add b0.toNat 24 (b1.toNat * 65536) (by omega)
  have o2 := or_add (b0.toNat * 256 + b1.toNat) 16 (b2.toNat * 256) (by omega)
  simp at o1 o2
  rw [s0, s1, s2, s3, o1, m64 (b0.toNat * 16777216 + b1.toNat * 65536) (by omega), show b0.toNat * 16777216 + b1.toNat * 65536 = (b0.toNat * 256 + b1.toNat) * 65536 by omega, o2, m64 ((b0.toNat * 256 + b1.toNat) * 65536 + b2.toNat * 256) (by omega)]
  have o3 := or_add ((b0.toNat * 256 + b1.toNat) * 256 + b2.toNat) 8 b3.toNat (by omega)
  simp at o3
  rw [show (b0.toNat * 256 + b1.toNat) * 65536 + b2.toNat * 256 = ((b0.toNat * 256 + b1.toNat) * 256 + b2.toNat) * 256 by omega, o3, wrap64_nat (by omega), hn]
def symV (s : Sm) : AV := .agg [str s.name, intV s.bind, intV s.size, intV s.align]
def symsV (l : List Sm) : AV := .ps (l.map symV)
attribute [simp] symV symsV
theorem beq_dec (a b : Int) : (a == b) = decide (a = b) := by
  rw [Bool.eq_iff_iff]; simp
theorem ovalid_p (s : Sm) (hn : s.name.length ≤ 1000000) (ha : s.align < 9223372036854775808) : Pur E 105 [symV s] (boolV (okS s)) := by
  obtain ⟨n, b, z, a⟩ := s
  simp only at hn ha
  refine Pur.enter [] Tryz.func105 rfl Tryz.ntmps105 Tryz.results105 hmE (by kernel_rfl) (by simp) (by simp) fun σ hσ => ?_
  conv => arg 5; cbv
  by_cases h1 : n = []
  · repeat (simp only [thenK_normal]; simp [-thenK_normal, h1, okS])
  have l1 : ¬ (n.length : Int) < 1 := by cases n <;> simp_all <;> omega
  by_cases h2 : 255 < n.length
  · have e2 : (255 < (n.length : Int)) = True := by simp; omega
    repeat (simp only [thenK_normal]; simp [-thenK_normal, h1, h2, e2, l1, okS])
    omega
  have e2 : (255 < (n.length : Int)) = False := by simp; omega
  have hC : Pur E 97 [str n, str [0]] (boolV (n.contains 0)) := Contains_p n
  by_cases h3 : n.contains 0 = true
  · rw [h3] at hC
    repeat (simp only [thenK_normal]; simp [-thenK_normal, h1, e2, l1])
    refine Pur.call hC ?_
    repeat (simp [-thenK_normal, h1, e2, l1]; try simp only [thenK_normal])
    simp [okS, -List.contains_eq_mem, h3]
  have h3 : n.contains 0 = false := by simpa using h3
  rw [h3] at hC
  by_cases h4 : z < 0
  · repeat (simp only [thenK_normal]; simp [-thenK_normal, h1, e2, l1])
    refine Pur.call hC ?_
    simp [-thenK_normal, h4]
    repeat (simp only [thenK_normal]; simp [-thenK_normal, h4])
    simp [okS]; omega
  by_cases h5 : 4294967295 < z
  · repeat (simp only [thenK_normal]; simp [-thenK_normal, h1, e2, l1])
    refine Pur.call hC ?_
    simp [-thenK_normal, h4, h5]
    repeat (simp only [thenK_normal]; simp [-thenK_normal, h4, h5])
    simp [okS]; omega
  have hok : okS ⟨n, b, z, a⟩ = okB ⟨n, b, z, a⟩ := by
    have : 1 ≤ n.length ∧ n.length ≤ 255 := by simp at e2; cases n <;> simp_all <;> omega
    simp only [okS, h3, this, and_self, decide_true, Bool.not_false, Bool.true_and]
    rw [show (decide (0 ≤ z ∧ z ≤ 4294967295)) = true by simp; omega, Bool.true_and]
  rw [hok]
  repeat (simp only [thenK_normal]; simp [-thenK_normal, h1, e2, l1])
  refine Pur.call hC ?_
  simp [-thenK_normal, h4, h5]
  repeat (simp only [thenK_normal]; simp [-thenK_normal, h4, h5])
  have hbits : IntKind.i64.bits = 64 := rfl
  have P : 1 ≤ a → a ≤ 65536 → (IntKind.i64.wrap (((a % 2 ^ IntKind.i64.bits).toNat &&& (IntKind.i64.wrap (a - 1) % 2 ^ IntKind.i64.bits).toNat : Nat) : Int) == 0) = powOk a := by
    intro q1 q2
    obtain ⟨k, rfl⟩ : ∃ k : Nat, a = k := ⟨a.toNat, by omega⟩
    have e1 : (((k : Int) % 2 ^ IntKind.i64.bits).toNat) = k := by rw [hbits]; omega
    have e2 : (IntKind.i64.wrap ((k : Int) - 1) % 2 ^ IntKind.i64.bits).toNat = k - 1 := by rw [wrap64_id (by omega) (by omega), hbits]; omega
    rw [e1, e2, ← pow_and' k (by omega) (by omega)]
    have hle : k &&& (k - 1) ≤ k := Nat.and_le_left
    rw [wrap64_nat (by omega), Bool.eq_iff_iff]
    simp
  have P0 : a < 1 → powOk a = false := fun h => by
    cases hp : powOk a with
    | false => rfl
    | true => have := powOk_range hp; omega
  have P1 : 65536 < a → powOk a = false := fun h => by
    cases hp : powOk a with
    | false => rfl
    | true => have := powOk_range hp; omega
  by_cases q1 : b = 1
  · subst q1; simp [okB, beq_dec]
  by_cases q2 : b = 2
  · subst q2; simp [okB, beq_dec]
  by_cases q3 : b = 3
  · subst q3
    simp only [okB]
    refine ⟨fun h => absurd h (by omega), fun _ => ⟨fun h => absurd h (by omega), fun _ => ⟨fun _ => ⟨fun r1 => ⟨fun r2 => ?_, fun r2 => ?_⟩, fun r1 => ?_⟩, fun h => (h trivial).elim⟩⟩⟩
    · rw [P r1 r2]; simp
    · rw [P1 r2]; simp
    · rw [P0 r1]; simp
  by_cases q4 : b = 4
  · subst q4; by_cases r : a = 0 <;> simp [okB, r, beq_dec]
  by_cases q5 : b = 5
  · subst q5; by_cases r : a = 0 <;> simp [okB, r, beq_dec]
  · simp [okB, q1, q2, q3, q4, q5]
theorem pow_ex {a : Int} (h : powOk a = true) : ∃ k : Nat, k < 17 ∧ a = 2 ^ k := by
  simp only [powOk, pows, List.contains_eq_mem, decide_eq_true_eq, List.mem_cons, List.not_mem_nil, or_false] at h
  rcases h with h | h | h | h | h | h | h | h | h | h | h | h | h | h | h | h | h
  · exact ⟨0, by omega, by omega⟩
  · exact ⟨1, by omega, by omega⟩
  · exact ⟨2, by omega, by omega⟩
  · exact ⟨3, by omega, by omega⟩
  · exact ⟨4, by omega, by omega⟩
  · exact ⟨5, by omega, by omega⟩
  · exact ⟨6, by omega, by omega⟩
  · exact ⟨7, by omega, by omega⟩
  · exact ⟨8, by omega, by omega⟩
  · exact ⟨9, by omega, by omega⟩
  · exact ⟨10, by omega, by omega⟩
  · exact ⟨11, by omega, by omega⟩
  · exact ⟨12, by omega, by omega⟩
  · exact ⟨13, by omega, by omega⟩
  · exact ⟨14, by omega, by omega⟩
  · exact ⟨15, by omega, by omega⟩
  · exact ⟨16, by omega, by omega⟩
theorem pow_le (j : Nat) (h : j ≤ 17) : ((2 : Int) ^ j ≤ 65536 ↔ j ≤ 16) ∧ (0 : Int) < 2 ^ j ∧ (2 : Int) ^ j ≤ 131072 := by
  have : ∀ j : Nat, j < 18 → ((2 : Int) ^ j ≤ 65536 ↔ j ≤ 16) ∧ (0 : Int) < 2 ^ j ∧ (2 : Int) ^ j ≤ 131072 := by decide
  exact this j (by omega)
theorem pow_in (j : Nat) (h : j ≤ 16) : powOk (2 ^ j) = true := by
  have : ∀ j : Nat, j < 17 → powOk (2 ^ j) = true := by decide
  exact this j (by omega)
theorem Power_p (a : Int) : Pur E 107 [intV a] (boolV (powOk a)) := by
  refine Pur.enter [] Tryz.func107 rfl Tryz.ntmps107 Tryz.results107 hmE (by kernel_rfl) (by simp) (by simp) fun σ hσ => ?_
  conv => arg 5; cbv
  simp
  refine loop_n hmE (by kernel_rfl) 17 (fun j : Nat => [(3, intV (2 ^ j))]) (fun j : Nat => j ≤ 17 ∧ ∀ k : Nat, k < j → a ≠ 2 ^ k) (Nat.le_refl _) hσ (by simp) (by simp) (by simp) fun j ⟨hj, hne⟩ => ?_
  obtain ⟨q1, q2, q3⟩ := pow_le j hj
  simp
  refine ⟨fun h => ⟨fun e => e ▸ pow_in j (q1.1 h), fun e => ⟨?_, ⟨q1.1 h, fun k hk he => ?_⟩, by have := q1.1 h; omega⟩⟩, fun h => ?_⟩
  · rw [wrap64_id (by omega) (by omega), Int.pow_succ]; omega
  · rcases Nat.lt_succ_iff_lt_or_eq.1 hk with hk | rfl
    · exact hne k hk he
    · exact e he.symm
  · cases hp : powOk a with
    | false => rfl
    | true =>
      obtain ⟨k, hk, he⟩ := pow_ex hp
      have : ¬ j ≤ 16 := fun h' => by have := q1.2 h'; omega
      exact absurd he (hne k (by omega))
theorem Sym_p (s : Sm) : Pur E 78 [symV s] (boolV (okS s)) := by
  obtain ⟨n, b, z, a⟩ := s
  have hP := Power_p a
  refine Pur.enter [] Tryz.func78 rfl Tryz.ntmps78 Tryz.results78 hmE (by kernel_rfl) (by simp) (by simp) fun σ hσ => ?_
  conv => arg 5; cbv
  by_cases h1 : n = []
  · repeat (simp only [thenK_normal]; simp [-thenK_normal, h1, okS])
  have l0 : 1 ≤ n.length := by cases n <;> simp_all
  by_cases h2 : 255 < n.length
  · have e2 : (255 < (n.length : Int)) = True := by simp; omega
    repeat (simp only [thenK_normal]; simp [-thenK_normal, h1, h2, e2, okS])
    omega
  have e2 : (255 < (n.length : Int)) = False := by simp; omega
  by_cases h4 : z < 0
  · repeat (simp only [thenK_normal]; simp [-thenK_normal, h1, e2, h4])
    simp [okS]; omega
  by_cases h5 : 4294967295 < z
  · repeat (simp only [thenK_normal]; simp [-thenK_normal, h1, e2, h4, h5])
    simp [okS]; omega
  have hok : n.contains 0 = false → okS ⟨n, b, z, a⟩ = okB ⟨n, b, z, a⟩ := fun h3 => by
    have : 1 ≤ n.length ∧ n.length ≤ 255 := ⟨l0, by omega⟩
    simp only [okS, h3, this, and_self, decide_true, Bool.not_false, Bool.true_and]
    rw [show (decide (0 ≤ z ∧ z ≤ 4294967295)) = true by simp; omega, Bool.true_and]
  repeat (simp only [thenK_normal]; simp [-thenK_normal, h1, e2, h4, h5])
  have lz : n.length ≤ 255 := by omega
  refine loop_n hmE (by kernel_rfl) n.length (fun i => [(3, intV i)]) (fun i => i ≤ n.length ∧ (0 : UInt8) ∉ n.take i) (by simp) (hσ.alloc_arr (by simp)) (by simp) (by simp) (by simp) fun i ⟨hi, he⟩ => ?_
  by_cases hil : i < n.length
  · obtain ⟨x, hx⟩ := get_ex hil
    have hxi : n[i] = x := (List.getElem?_eq_some_iff.1 hx).2
    simp [-thenK_normal, hil, hx]
    repeat (simp only [thenK_normal]; simp [-thenK_normal, hil, hx])
    rw [hxi]
    refine ⟨fun h0 => ?_, fun h0 => ⟨wrap_succ hil (by omega), ⟨by omega, ?_⟩, by omega⟩⟩
    · have : x = 0 := UInt8.toNat_inj.1 (by simpa using h0)
      subst this
      have hm : (0 : UInt8) ∈ n := List.mem_of_getElem? hx
      simp [okS, hm]
    · rw [List.take_add_one, hx]
      simp only [Option.toList_some, List.mem_append, List.mem_singleton, not_or]
      exact ⟨he, fun e => h0 (by rw [← e]; rfl)⟩
  · obtain rfl : i = n.length := by omega
    rw [List.take_length] at he
    rw [hok (by simpa using he)]
    simp [-thenK_normal]
    repeat (simp only [thenK_normal]; simp [-thenK_normal])
    refine ⟨fun q => ?_, fun q3 => ?_⟩
    · subst q
      refine Pur.call hP ?_
      simp [okB]
    · by_cases q4 : b = 4
      · subst q4; by_cases r : z = 0 <;> simp [okB, r, beq_dec]
      by_cases q5 : b = 5
      · subst q5; by_cases r : z = 0 <;> simp [okB, r, beq_dec]
      by_cases q1 : b = 1
      · subst q1; simp [okB, beq_dec]
      by_cases q2 : b = 2
      · subst q2; simp [okB, beq_dec]
      · simp [okB, q1, q2, q3, q4, q5]
theorem Number_p (b : W) (h : 4 ≤ b.length) : Pur E 77 [bytes b] (intV (num4 b)) := by
  obtain ⟨b0, b1, b2, b3, h0, h1, h2, h3⟩ := b4 h
  have l0 := b0.toNat_lt
  have l1 := b1.toNat_lt
  have l2 := b2.toNat_lt
  have l3 := b3.toNat_lt
  have hn : num4 b = ((b0.toNat * 256 + b1.toNat) * 256 + b2.toNat) * 256 + b3.toNat := by simp [num4, h0, h1, h2, h3]
  have c0 : IntKind.i64.wrap (b0.toNat : Int) = b0.toNat := wrap64_id (by omega) (by omega)
  have c1 : IntKind.i64.wrap (b1.toNat : Int) = b1.toNat := wrap64_id (by omega) (by omega)
  have c2 : IntKind.i64.wrap (b2.toNat : Int) = b2.toNat := wrap64_id (by omega) (by omega)
  have c3 : IntKind.i64.wrap (b3.toNat : Int) = b3.toNat := wrap64_id (by omega) (by omega)
  have e1 : IntKind.i64.wrap ((b0.toNat : Int) * 256) = (b0.toNat : Int) * 256 := wrap64_id (by omega) (by omega)
  have e2 : IntKind.i64.wrap ((b0.toNat : Int) * 256 + b1.toNat) = (b0.toNat : Int) * 256 + b1.toNat := wrap64_id (by omega) (by omega)
  have e3 : IntKind.i64.wrap (((b0.toNat : Int) * 256 + b1.toNat) * 256) = ((b0.toNat : Int) * 256 + b1.toNat) * 256 := wrap64_id (by omega) (by omega)
  have e4 : IntKind.i64.wrap (((b0.toNat : Int) * 256 + b1.toNat) * 256 + b2.toNat) = ((b0.toNat : Int) * 256 + b1.toNat) * 256 + b2.toNat := wrap64_id (by omega) (by omega)
  have e5 : IntKind.i64.wrap ((((b0.toNat : Int) * 256 + b1.toNat) * 256 + b2.toNat) * 256) = (((b0.toNat : Int) * 256 + b1.toNat) * 256 + b2.toNat) * 256 := wrap64_id (by omega) (by omega)
  have e6 : IntKind.i64.wrap ((((b0.toNat : Int) * 256 + b1.toNat) * 256 + b2.toNat) * 256 + b3.toNat) = (((b0.toNat : Int) * 256 + b1.toNat) * 256 + b2.toNat) * 256 + b3.toNat := wrap64_id (by omega) (by omega)
  refine Pur.enter [] Tryz.func77 rfl Tryz.ntmps77 Tryz.results77 hmE (by kernel_rfl) (by simp) (by simp) fun σ hσ => ?_
  conv => arg 5; cbv
  simp [h0, h1, h2, h3, c0, c1, c2, c3, e1, e2, e3, e4, e5, e6]
  rw [hn]; simp
theorem has_p (l : List Sm) (n : W) (hl : l.length ≤ 100000) : Pur E 79 [symsV l, str n] (boolV (hasS l n)) := by
  refine Pur.enter [] Tryz.func79 rfl Tryz.ntmps79 Tryz.results79 hmE (by kernel_rfl) (by simp) (by simp) fun σ hσ => ?_
  conv => arg 5; cbv
  simp
  refine loop_n hmE (by kernel_rfl) l.length (fun i => [(5, intV i)]) (fun i => i ≤ l.length ∧ ∀ k s, k < i → l[k]? = some s → s.name ≠ n) (Nat.le_refl _) hσ (by simp) (by simp) (by simp) fun i ⟨hi, he⟩ => ?_
  simp
  refine ⟨fun hil => ?_, fun hil => ?_⟩
  · obtain ⟨x, hx⟩ := get_ex hil
    simp [hx]
    refine ⟨fun e => ?_, fun e => ⟨wrap_succ hil (by omega), ⟨by omega, fun k s hk hs => ?_⟩, by omega⟩⟩
    · simp only [hasS, List.any_eq_true]
      exact ⟨x, List.mem_of_getElem? hx, by simpa using e⟩
    · rcases Nat.lt_succ_iff_lt_or_eq.1 hk with hk | rfl
      · exact he k s hk hs
      · rw [hx] at hs; cases hs; exact e
  · rw [Bool.eq_false_iff]
    intro h
    simp only [hasS, List.any_eq_true] at h
    obtain ⟨s, hs, e⟩ := h
    obtain ⟨k, hk⟩ := List.getElem?_of_mem hs
    have := (List.getElem?_eq_some_iff.1 hk).1
    exact he k s (by omega) hk (by simpa using e)
theorem clone_p (w : W) (hw : w.length ≤ 1000000000) : Pur E 106 [bytes w] (bytes w) := by
  refine Pur.enter [] Tryz.func106 rfl Tryz.ntmps106 Tryz.results106 hmE (by kernel_rfl) (by simp) (by simp) fun σ hσ => ?_
  conv => arg 5; cbv
  cases w with
  | nil => simp [aNilEq]
  | cons x w =>
    simp at hw
    simp [aNilEq]
    omega
end Go.Proofs.YtcjdagpadnahfaaGreatDoor
