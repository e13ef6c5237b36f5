/- Maps of links as text, in plain words: escaped forms, numbers, lines. No condition, no program. -/
import Derived.Test.YtebjdgcnnonjoaaDoorA0
import Derived.Lib.Bytealg
set_option linter.unusedVariables false
set_option linter.unusedSimpArgs false
set_option linter.unnecessarySimpa false
namespace Go.Proofs.YtebjdgcnnonjoaaDoor
open Go Go.AW
set_option maxRecDepth 100000

/-- A word. -/
abbrev W := List UInt8
/-- Does a byte stand for itself? -/
def plainB (c : UInt8) : Bool := decide (33 ≤ c.toNat ∧ c.toNat ≤ 126 ∧ c.toNat ≠ 37)
def hexs : W := [48, 49, 50, 51, 52, 53, 54, 55, 56, 57, 65, 66, 67, 68, 69, 70]
def hx (n : Nat) : UInt8 := hexs.getD n 0
def hv (c : UInt8) : Int := Lib.indexByte hexs c
def esc1 (c : UInt8) : W := if plainB c = true then [c] else [37, hx (c.toNat / 16), hx (c.toNat % 16)]
def esc (w : W) : W := w.flatMap esc1
def byteOf (a b : UInt8) : UInt8 := UInt8.ofNat (16 * hv a + hv b).toNat
def hexOk (a b : UInt8) : Bool := decide (0 ≤ hv a ∧ 0 ≤ hv b) && !plainB (byteOf a b)
def un : W → Option W
  | [] => some []
  | c :: r => if c = 37 then (match r with
      | a :: b :: r' => if hexOk a b = true then (un r').map (byteOf a b :: ·) else none
      | _ => none)
    else if plainB c = true then (un r).map (c :: ·) else none
theorem un_ne {c : UInt8} {r : W} (h : c ≠ 37) : un (c :: r) = if plainB c = true then (un r).map (c :: ·) else none := by
  match r with
  | [] => simp [un, h]
  | [a] => simp [un, h]
  | a :: b :: r' => rw [un, if_neg h]
theorem all8 (p : UInt8 → Bool) (h : ((List.range 256).all fun n => p (UInt8.ofNat n)) = true) (a : UInt8) : p a = true := by
  have := List.all_eq_true.1 h a.toNat (by simp; have := a.toNat_lt; omega)
  simpa using this
theorem hv_lt (a : UInt8) (h : 0 ≤ hv a) : hv a < 16 ∧ hx (hv a).toNat = a := by
  have := all8 (fun a => decide (0 ≤ hv a → hv a < 16 ∧ hx (hv a).toNat = a)) (by decide +kernel) a
  exact (of_decide_eq_true this) h
theorem hv_hx (n : Nat) (h : n < 16) : hv (hx n) = n := by
  have : ∀ n : Fin 16, hv (hx n) = (n : Nat) := by decide +kernel
  exact this ⟨n, h⟩
theorem hx_ascii (n : Nat) : 33 ≤ (hx n).toNat ∨ hx n = 0 := by
  by_cases h : n < 16
  · have : ∀ n : Fin 16, 33 ≤ (hx n).toNat := by decide +kernel
    exact .inl (this ⟨n, h⟩)
  · right; simp [hx, hexs, List.getD, List.getElem?_eq_none (show hexs.length ≤ n by simp [hexs]; omega)]
    rw [List.getElem?_eq_none (by simp; omega)]; rfl
theorem byteOf_hx (c : UInt8) : byteOf (hx (c.toNat / 16)) (hx (c.toNat % 16)) = c := by
  have := c.toNat_lt
  rw [byteOf, hv_hx _ (by omega), hv_hx _ (by omega)]
  apply UInt8.toNat_inj.1
  simp
  omega
theorem un_esc1 (c : UInt8) (r : W) : un (esc1 c ++ r) = (un r).map (c :: ·) := by
  unfold esc1
  have := c.toNat_lt
  split
  · rename_i h
    have hc : c ≠ 37 := by rintro rfl; revert h; decide
    rw [List.singleton_append, un_ne hc, if_pos h]
  · rename_i h
    have h1 : hexOk (hx (c.toNat / 16)) (hx (c.toNat % 16)) = true := by
      rw [hexOk, byteOf_hx, hv_hx _ (by omega), hv_hx _ (by omega)]
      simp at h
      simp [h]
      omega
    simp [un, h1, byteOf_hx]
theorem un_esc (w : W) : un (esc w) = some w := by
  induction w with
  | nil => rfl
  | cons c w ih =>
    show un (esc1 c ++ esc w) = _
    rw [un_esc1, ih]; rfl
theorem esc_cons (c : UInt8) (w : W) : esc (c :: w) = esc1 c ++ esc w := rfl
theorem esc1_byteOf {a b : UInt8} (h : hexOk a b = true) : esc1 (byteOf a b) = [37, a, b] := by
  simp [hexOk] at h
  obtain ⟨⟨ha, hb⟩, hp⟩ := h
  obtain ⟨a1, a2⟩ := hv_lt a ha
  obtain ⟨b1, b2⟩ := hv_lt b hb
  rw [esc1, if_neg (by simp [hp])]
  have e : (byteOf a b).toNat = 16 * (hv a).toNat + (hv b).toNat := by simp [byteOf]; omega
  rw [e, show (16 * (hv a).toNat + (hv b).toNat) / 16 = (hv a).toNat by omega, show (16 * (hv a).toNat + (hv b).toNat) % 16 = (hv b).toNat by omega, a2, b2]
theorem esc_un : ∀ (s o : W), un s = some o → esc o = s := by
  intro s
  induction s using un.induct with
  | case1 => intro o h; simp [un] at h; subst h; rfl
  | case2 a b r' hk ih =>
    intro o h
    simp [un, hk] at h
    obtain ⟨o', h1, rfl⟩ := h
    rw [esc_cons, esc1_byteOf hk, ih o' h1]; rfl
  | case3 a b r' hk => intro o h; simp [un, hk] at h
  | case4 r hr =>
    intro o h
    unfold un at h
    rw [if_pos rfl] at h
    split at h
    · exact absurd rfl (hr _ _ _)
    · cases h
  | case5 c r hc hp ih =>
    intro o h
    rw [un_ne hc, if_pos hp] at h
    simp at h
    obtain ⟨o', h1, rfl⟩ := h
    rw [esc_cons, ih o' h1, esc1, if_pos hp]; rfl
  | case6 c r hc hp => intro o h; rw [un_ne hc, if_neg hp] at h; cases h
theorem un_iff {s o : W} : un s = some o ↔ esc o = s := ⟨esc_un s o, fun h => h ▸ un_esc o⟩
/-- The bytes of an escaped form. -/
theorem esc1_bytes (c : UInt8) : ∀ x ∈ esc1 c, 33 ≤ x.toNat ∧ x.toNat ≤ 126 := by
  have h16 : ∀ n : Fin 16, 33 ≤ (hx n).toNat ∧ (hx n).toNat ≤ 126 := by decide +kernel
  have := c.toNat_lt
  intro x hx'
  unfold esc1 at hx'
  split at hx'
  · rename_i h
    simp at hx'
    subst hx'
    simp [plainB] at h
    omega
  · simp at hx'
    rcases hx' with rfl | rfl | rfl
    · decide
    · exact h16 ⟨c.toNat / 16, by omega⟩
    · exact h16 ⟨c.toNat % 16, by omega⟩
theorem esc_bytes (w : W) : ∀ x ∈ esc w, 33 ≤ x.toNat ∧ x.toNat ≤ 126 := by
  intro x hx
  simp [esc] at hx
  obtain ⟨c, _, hc⟩ := hx
  exact esc1_bytes c x hc
theorem esc1_len (c : UInt8) : 1 ≤ (esc1 c).length ∧ (esc1 c).length ≤ 3 := by
  unfold esc1; split <;> simp
theorem esc_len (w : W) : w.length ≤ (esc w).length ∧ (esc w).length ≤ 3 * w.length := by
  induction w with
  | nil => simp [esc]
  | cons c w ih =>
    have := esc1_len c
    rw [esc_cons]
    simp
    omega
theorem esc_append (a b : W) : esc (a ++ b) = esc a ++ esc b := by simp [esc]
theorem un_append {a b : W} {o : W} (h : un a = some o) : un (a ++ b) = (un b).map (o ++ ·) := by
  rw [un_iff] at h
  subst h
  induction o with
  | nil => simp [esc]
  | cons c w ih =>
    rw [esc_cons, List.append_assoc, un_esc1, ih]
    cases un b <;> simp
theorem un_len {s o : W} (h : un s = some o) : o.length ≤ s.length := by
  rw [un_iff] at h
  subst h
  exact (esc_len o).1

/-! ### Splitting -/
def spA (c : UInt8) : W → W → List W
  | cur, [] => [cur]
  | cur, x :: l => if x = c then cur :: spA c [] l else spA c (cur ++ [x]) l
/-- The pieces of a text between the bytes c. -/
def sp (c : UInt8) (s : W) : List W := spA c [] s
/-- The pieces, put together. -/
def jn (c : UInt8) : List W → W
  | [] => []
  | [x] => x
  | x :: y :: l => x ++ c :: jn c (y :: l)
theorem spA_ne (c : UInt8) : ∀ (cur l : W), spA c cur l ≠ []
  | _, [] => by simp [spA]
  | cur, x :: l => by
    rw [spA]; split
    · simp
    · exact spA_ne c _ _
theorem jn_cons (c : UInt8) (x : W) {l : List W} (h : l ≠ []) : jn c (x :: l) = x ++ c :: jn c l := by
  obtain ⟨y, l', rfl⟩ := List.exists_cons_of_ne_nil h
  rfl
theorem jn_spA (c : UInt8) : ∀ (cur l : W), jn c (spA c cur l) = cur ++ l
  | cur, [] => by simp [spA, jn]
  | cur, x :: l => by
    rw [spA]; split
    · rename_i h
      rw [jn_cons c cur (spA_ne c [] l), jn_spA c [] l, h]; simp
    · rw [jn_spA c _ l]; simp
theorem jn_sp (c : UInt8) (s : W) : jn c (sp c s) = s := by rw [sp, jn_spA]; rfl
theorem spA_app (c : UInt8) : ∀ (x cur r : W), c ∉ x → spA c cur (x ++ r) = spA c (cur ++ x) r
  | [], cur, r, _ => by simp
  | a :: x, cur, r, h => by
    simp at h
    rw [List.cons_append, spA, if_neg (fun e => h.1 e.symm), spA_app c x _ r h.2]
    simp
theorem sp_no (c : UInt8) (x : W) (h : c ∉ x) : sp c x = [x] := by
  have := spA_app c x [] [] h
  simpa [sp, spA] using this
theorem sp_cons (c : UInt8) (x r : W) (h : c ∉ x) : sp c (x ++ c :: r) = x :: sp c r := by
  rw [sp, spA_app c x [] _ h, spA, if_pos rfl]; rfl
theorem sp_jn (c : UInt8) : ∀ (ws : List W), ws ≠ [] → (∀ w ∈ ws, c ∉ w) → sp c (jn c ws) = ws
  | [x], _, h => sp_no c x (h x (by simp))
  | x :: y :: l, _, h => by
    rw [jn_cons c x (by simp), sp_cons c x _ (h x (by simp)), sp_jn c (y :: l) (by simp) fun w hw => h w (by simp at hw ⊢; exact .inr hw)]
theorem sp_mem (c : UInt8) : ∀ (cur l : W), c ∉ cur → ∀ w ∈ spA c cur l, c ∉ w
  | cur, [], h => by simpa [spA] using h
  | cur, x :: l, h => by
    rw [spA]
    split
    · intro w hw
      rcases List.mem_cons.1 hw with rfl | hw
      · exact h
      · exact sp_mem c [] l (by simp) w hw
    · rename_i hx
      exact sp_mem c _ l (by simp [h]; exact fun e => hx e.symm)
theorem spA_count (c : UInt8) : ∀ (cur l : W), (spA c cur l).length = l.count c + 1
  | _, [] => by simp [spA]
  | cur, x :: l => by
    rw [spA]
    split
    · rename_i h; subst h; simp [spA_count]
    · rename_i h; rw [spA_count, List.count_cons_of_ne h]
theorem sp_count (c : UInt8) (s : W) : (sp c s).length = s.count c + 1 := spA_count c [] s
theorem ixB_split {c : UInt8} : ∀ {s : W}, 0 ≤ Lib.indexByte s c → ∃ a b, s = a ++ c :: b ∧ c ∉ a ∧ Lib.indexByte s c = a.length
  | [], h => by simp [Lib.indexByte] at h
  | x :: s, h => by
    by_cases hx : x = c
    · subst hx; exact ⟨[], s, rfl, by simp, by simp [Lib.indexByte]⟩
    · have h' : 0 ≤ Lib.indexByte s c := by
        simp only [Lib.indexByte] at h
        rw [if_neg (by simpa using hx)] at h
        split at h
        · omega
        · rename_i h2; simp at h2; have := Lib.indexByte_ge s c; omega
      obtain ⟨a, b, rfl, hn, he⟩ := ixB_split h'
      refine ⟨x :: a, b, rfl, by simp only [List.mem_cons, not_or]; exact ⟨fun e => hx e.symm, hn⟩, ?_⟩
      simp only [Lib.indexByte, he]
      rw [if_neg (by simpa using hx), if_neg (by simp)]
      first | rfl | simp
theorem ixB_no {c : UInt8} : ∀ {s : W}, Lib.indexByte s c < 0 ↔ c ∉ s
  | [] => by simp [Lib.indexByte]
  | x :: s => by
    have ih := @ixB_no c s
    have hg := Lib.indexByte_ge s c
    simp only [Lib.indexByte]
    by_cases hx : x = c
    · subst hx; simp
    · rw [if_neg (by simpa using hx)]
      rw [List.mem_cons, not_or, ← ih]
      simp only [show ¬ c = x from fun e => hx e.symm, not_false_eq_true, true_and]
      have hne : ¬ c = x := fun e => hx e.symm
      split
      · rename_i h; simp at h; simp [h]
      · rename_i h; simp at h; constructor <;> intro q <;> omega
theorem ixB_ge0 {c : UInt8} {s : W} : 0 ≤ Lib.indexByte s c ↔ c ∈ s := by
  have := @ixB_no c s
  constructor
  · intro h; exact Classical.byContradiction fun hc => by have := this.2 hc; omega
  · intro h; exact Int.not_lt.1 fun hl => this.1 hl h
end Go.Proofs.YtebjdgcnnonjoaaDoor
