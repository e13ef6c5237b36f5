/- Merged texts, in order: Numbers of four bytes, symbols, objects, in plain words. No condition, no program. | The archive's map and the index, in plain words. No condition, no program. -/
import Derived.Test.YtcjdagpadnahfaaGreatDoorA0
section
set_option linter.unusedVariables false
set_option linter.unusedSimpArgs false
set_option linter.unnecessarySimpa false
namespace Go.Proofs.YtcjdagpadnahfaaGreatDoor
open Go Go.AW
set_option maxRecDepth 100000
set_option maxHeartbeats 8000000

/-- The number in the first four bytes. -/
def num4 (b : List UInt8) : Nat := (((b.getD 0 0).toNat * 256 + (b.getD 1 0).toNat) * 256 + (b.getD 2 0).toNat) * 256 + (b.getD 3 0).toNat
/-- A number as four bytes. -/
def put4 (n : Int) : List UInt8 := [UInt8.ofNat ((n / 16777216) % 256).toNat, UInt8.ofNat ((n / 65536) % 256).toNat, UInt8.ofNat ((n / 256) % 256).toNat, UInt8.ofNat (n % 256).toNat]
@[simp] theorem put4_len (n : Int) : (put4 n).length = 4 := rfl
theorem num4_lt (b : List UInt8) : num4 b < 4294967296 := by
  have h0 := (b.getD 0 0).toNat_lt
  have h1 := (b.getD 1 0).toNat_lt
  have h2 := (b.getD 2 0).toNat_lt
  have h3 := (b.getD 3 0).toNat_lt
  unfold num4
  omega
theorem or_add (a i b : Nat) (h : b < 2 ^ i) : (a * 2 ^ i ||| b) = a * 2 ^ i + b := by
  rw [← Nat.shiftLeft_eq, Nat.shiftLeft_add_eq_or_of_lt h]
theorem get4 (a b c d : Nat) (hb : b < 256) (hc : c < 256) (hd : d < 256) : (((a * 16777216 ||| b * 65536) ||| c * 256) ||| d) = ((a * 256 + b) * 256 + c) * 256 + d := by
  have e1 : (a * 16777216 ||| b * 65536) = (a * 256 + b) * 65536 := by
    have := or_add a 24 (b * 65536) (by omega)
    simp at this
    rw [this]; omega
  have e2 : ((a * 256 + b) * 65536 ||| c * 256) = ((a * 256 + b) * 256 + c) * 256 := by
    have := or_add (a * 256 + b) 16 (c * 256) (by omega)
    simp at this
    rw [this]; omega
  have e3 : (((a * 256 + b) * 256 + c) * 256 ||| d) = ((a * 256 + b) * 256 + c) * 256 + d := by
    have := or_add ((a * 256 + b) * 256 + c) 8 d (by omega)
    simpa using this
  rw [e1, e2, e3]

/-! ### Symbols -/
structure Sm where
  name : List UInt8
  bind : Int
  size : Int
  align : Int
  deriving DecidableEq, Inhabited
def pows : List Int := [1, 2, 4, 8, 16, 32, 64, 128, 256, 512, 1024, 2048, 4096, 8192, 16384, 32768, 65536]
def powOk (n : Int) : Bool := pows.contains n
def okB (s : Sm) : Bool := decide (s.bind = 1 ∨ s.bind = 2) && decide (s.align = 0) || decide (s.bind = 3) && powOk s.align || decide (s.bind = 4 ∨ s.bind = 5) && decide (s.align = 0 ∧ s.size = 0)
def okS (s : Sm) : Bool := decide (1 ≤ s.name.length ∧ s.name.length ≤ 255) && !s.name.contains 0 && decide (0 ≤ s.size ∧ s.size ≤ 4294967295) && okB s
theorem pow_and' (a : Nat) (h1 : 1 ≤ a) (h2 : a ≤ 65536) : ((a &&& (a - 1)) == 0) = powOk a := by
  have hp := @Nat.and_sub_one_eq_zero_iff_isPowerOfTwo a (by omega)
  have e : (a &&& (a - 1) = 0) ↔ powOk a = true := by
    rw [hp]
    constructor
    · rintro ⟨k, rfl⟩
      have hk : k < 17 := by
        rcases Nat.lt_or_ge k 17 with h | h
        · exact h
        · have := Nat.pow_le_pow_right (n := 2) (by omega) h
          omega
      have : ∀ k, k < 17 → powOk ((2 ^ k : Nat) : Int) = true := by decide
      exact this k hk
    · intro h
      simp only [powOk, pows, List.contains_eq_mem, decide_eq_true_eq, List.mem_cons, List.not_mem_nil, or_false] at h
      have key : ∃ k, k < 17 ∧ a = 2 ^ k := by
        rcases h with h | h | h | h | h | h | h | h | h | h | h | h | h | h | h | h | h
        · exact ⟨0, by omega, by omega⟩
        · exact ⟨1, by omega, by omega⟩
        · exact ⟨2, by omega, by omega⟩
        · exact ⟨3, by omega, by omega⟩
        · exact ⟨4, by omega, by omega⟩
        · exact ⟨5, by omega, by omega⟩
        · exact ⟨6, by omega, by omega⟩
        · exact ⟨7, by omega, by omega⟩
        · exact ⟨8, by omega, by omega⟩
        · exact ⟨9, by omega, by omega⟩
        · exact ⟨10, by omega, by omega⟩
        · exact ⟨11, by omega, by omega⟩
        · exact ⟨12, by omega, by omega⟩
        · exact ⟨13, by omega, by omega⟩
        · exact ⟨14, by omega, by omega⟩
        · exact ⟨15, by omega, by omega⟩
        · exact ⟨16, by omega, by omega⟩
      obtain ⟨k, _, rfl⟩ := key
      exact ⟨k, rfl⟩
  rw [Bool.eq_iff_iff, beq_iff_eq]
  exact e
theorem powOk_range {a : Int} (h : powOk a = true) : 1 ≤ a ∧ a ≤ 65536 := by
  simp [powOk, pows] at h
  omega

/-! ### Objects -/
def hasS (l : List Sm) (n : List UInt8) : Bool := l.any fun s => s.name == n
/-- The symbol that stands first. -/
def symAt (b : List UInt8) : Sm := ⟨(b.drop 10).take (b.getD 9 0).toNat, (b.getD 0 0).toNat, num4 (b.drop 1), num4 (b.drop 5)⟩
def decS : Nat → List UInt8 → List Sm → Int × List Sm × List UInt8
  | 0, b, l => (0, l, b)
  | n + 1, b, l => if b.length < 10 ∨ b.length < 10 + (b.getD 9 0).toNat then (2, [], []) else if okS (symAt b) && !hasS l (symAt b).name then decS n (b.drop (10 + (b.getD 9 0).toNat)) (l ++ [symAt b]) else (12, [], [])
/-- The error, the symbols, the rest. -/
def decO (b : List UInt8) : Int × List Sm × List UInt8 :=
  if b.length < 4 then (2, [], []) else if b.take 4 ≠ [79, 66, 74, 49] then (1, [], []) else if b.length < 8 then (2, [], []) else if 65536 < num4 (b.drop 4) then (12, [], []) else decS (num4 (b.drop 4)) (b.drop 8) []
theorem decS_facts : ∀ (n : Nat) (b : List UInt8) (l : List Sm), (∀ s ∈ l, okS s = true) → (decS n b l).2.2.length ≤ b.length ∧ (∀ s ∈ (decS n b l).2.1, okS s = true) ∧ (decS n b l).2.1.length ≤ l.length + b.length
  | 0, b, l, h => ⟨Nat.le_refl _, h, by simp [decS]⟩
  | n + 1, b, l, h => by
    unfold decS
    split
    · simp
    · rename_i hb
      split
      · rename_i ho
        simp only [Bool.and_eq_true] at ho
        obtain ⟨h1, h2, h3⟩ := decS_facts n (b.drop (10 + (b.getD 9 0).toNat)) (l ++ [symAt b]) (by
          intro s hs
          rcases List.mem_append.1 hs with hs | hs
          · exact h s hs
          · rw [List.mem_singleton.1 hs]; exact ho.1)
        rw [List.length_drop] at h1
        refine ⟨by omega, h2, ?_⟩
        simp only [List.length_append, List.length_drop, List.length_singleton] at h3
        omega
      · simp
theorem decO_facts (b : List UInt8) : (decO b).2.2.length ≤ b.length ∧ (∀ s ∈ (decO b).2.1, okS s = true) ∧ (decO b).2.1.length ≤ b.length := by
  unfold decO
  split
  · simp
  · split
    · simp
    · split
      · simp
      · split
        · simp
        · obtain ⟨h1, h2, h3⟩ := decS_facts (num4 (b.drop 4)) (b.drop 8) [] (by simp)
          simp at h1 h3
          exact ⟨by omega, h2, by omega⟩
/-- Which symbols are definitions. -/
def isDef (s : Sm) : Bool := decide (s.bind = 1 ∨ s.bind = 2)
def defsO (b : List UInt8) : List (List UInt8) := ((decO b).2.1.filter isDef).map Sm.name
theorem defsO_len (b : List UInt8) : (defsO b).length ≤ b.length := by
  have := (decO_facts b).2.2
  have h2 := List.length_filter_le isDef (decO b).2.1
  simp [defsO]; omega
theorem defsO_ok {b n : List UInt8} (h : n ∈ defsO b) : 1 ≤ n.length ∧ n.length ≤ 255 ∧ n.contains 0 = false := by
  obtain ⟨s, hs, rfl⟩ := List.mem_map.1 h
  have := (decO_facts b).2.1 s (List.mem_filter.1 hs).1
  simp [okS] at this
  refine ⟨this.1.1.1.1, this.1.1.1.2, ?_⟩
  simpa using this.1.1.2
end Go.Proofs.YtcjdagpadnahfaaGreatDoor
end

section
set_option linter.unusedVariables false
set_option linter.unusedSimpArgs false
set_option linter.unnecessarySimpa false
namespace Go.Proofs.YtcjdagpadnahfaaGreatDoor
open Go Go.AW
set_option maxRecDepth 100000
set_option maxHeartbeats 8000000

/-- An entry: a name, an offset. -/
structure En where
  name : List UInt8
  off : Int
  deriving DecidableEq, Inhabited
def entOk (e : En) : Bool := !e.name.isEmpty && !e.name.contains 0 && decide (0 ≤ e.off ∧ e.off ≤ 4294967295)
def mapOf (l : List En) : List UInt8 := l.flatMap fun e => put4 e.off
def mapNm (l : List En) : List UInt8 := l.flatMap fun e => e.name ++ [0]
def mapB (l : List En) : List UInt8 := put4 l.length ++ mapOf l ++ mapNm l
def mapE (l : List En) : Int := if l.all entOk then 0 else 9
def mapL (l : List En) : List UInt8 := if l.all entOk then mapB l else []
theorem mapOf_len (l : List En) : (mapOf l).length = 4 * l.length := by
  induction l with
  | nil => rfl
  | cons e l ih => simp [mapOf] at ih ⊢; omega
theorem mapNm_len (l : List En) : (mapNm l).length = (l.map fun e => e.name.length + 1).sum := by
  induction l with
  | nil => rfl
  | cons e l ih => simp [mapNm] at ih ⊢; omega
/-- The size of a map with these names. -/
def msz (ns : List (List UInt8)) : Nat := 4 + (ns.map fun n => n.length + 5).sum
theorem mapB_len (l : List En) : (mapB l).length = msz (l.map En.name) := by
  have h : ∀ l : List En, 4 * l.length + (l.map fun e => e.name.length + 1).sum = ((l.map En.name).map fun n => n.length + 5).sum := by
    intro l
    induction l with
    | nil => rfl
    | cons e l ih => simp at ih ⊢; omega
  simp only [mapB, List.length_append, put4_len, mapOf_len, mapNm_len, msz]
  have := h l
  omega
theorem msz_take {ns : List (List UInt8)} {i : Nat} {n : List UInt8} (h : ns[i]? = some n) : msz (ns.take (i + 1)) = msz (ns.take i) + (n.length + 5) := by
  rw [List.take_add_one, h]; simp [msz]; omega
theorem msz_le {ns : List (List UInt8)} {k : Nat} (h : ∀ n ∈ ns, n.length ≤ 255) : msz ns ≤ 4 + 260 * ns.length := by
  induction ns with
  | nil => simp [msz]
  | cons n l ih =>
    have h1 := h n (by simp)
    have h2 := ih fun n hn => h n (by simp [hn])
    simp [msz] at h2 ⊢
    omega

/-! ### The index of members with these data -/
def namesL (ds : List (List UInt8)) : List (List UInt8) := ds.flatMap defsO
theorem namesL_take {ds : List (List UInt8)} {i : Nat} {d : List UInt8} (h : ds[i]? = some d) : namesL (ds.take (i + 1)) = namesL (ds.take i) ++ defsO d := by
  rw [List.take_add_one, h]; simp [namesL]
/-- The entries of the first k members. -/
def entsK (offs : Nat → Int) (ds : List (List UInt8)) (k : Nat) : List En := (List.range k).flatMap fun i => (defsO (ds.getD i [])).map fun n => ⟨n, offs i⟩
theorem entsK_succ (offs : Nat → Int) (ds : List (List UInt8)) (k : Nat) : entsK offs ds (k + 1) = entsK offs ds k ++ (defsO (ds.getD k [])).map fun n => ⟨n, offs k⟩ := by
  simp [entsK, List.range_succ]
theorem entsK_names (offs : Nat → Int) (ds : List (List UInt8)) : ∀ k, k ≤ ds.length → (entsK offs ds k).map En.name = namesL (ds.take k)
  | 0, _ => by simp [entsK, namesL]
  | k + 1, h => by
    obtain ⟨d, hd⟩ := get_ex (l := ds) (i := k) (by omega)
    have hg : ds.getD k [] = d := by simp [List.getD, hd]
    rw [entsK_succ, List.map_append, entsK_names offs ds k (by omega), namesL_take hd, hg]
    simp [Function.comp_def]
theorem namesL_ok {ds : List (List UInt8)} {n : List UInt8} (h : n ∈ namesL ds) : 1 ≤ n.length ∧ n.length ≤ 255 ∧ n.contains 0 = false := by
  obtain ⟨d, _, hd⟩ := List.mem_flatMap.1 h
  exact defsO_ok hd
theorem namesL_len (ds : List (List UInt8)) : (namesL ds).length ≤ (ds.map List.length).sum := by
  induction ds with
  | nil => simp [namesL]
  | cons d l ih =>
    have := defsO_len d
    simp [namesL] at ih ⊢; omega
theorem entsK_ok {offs : Nat → Int} {ds : List (List UInt8)} {k : Nat} (h : ∀ i, i < k → 0 ≤ offs i ∧ offs i ≤ 4294967295) : (entsK offs ds k).all entOk = true := by
  rw [List.all_eq_true]
  intro e he
  obtain ⟨i, hi, he⟩ := List.mem_flatMap.1 he
  obtain ⟨n, hn, rfl⟩ := List.mem_map.1 he
  obtain ⟨h1, _, h3⟩ := defsO_ok hn
  have := h i (List.mem_range.1 hi)
  simp only [entOk, Bool.and_eq_true, decide_eq_true_eq, Bool.not_eq_true']
  refine ⟨⟨?_, h3⟩, this⟩
  cases n with
  | nil => simp at h1
  | cons => rfl
end Go.Proofs.YtcjdagpadnahfaaGreatDoor
end
