/- Numbers and their fields, in plain words. No condition, no program. -/
import Derived.Test.YtfonamgmfljhlaaDoorGD
set_option linter.unusedVariables false
set_option linter.unusedSimpArgs false
set_option linter.unnecessarySimpa false
namespace Go.Proofs.YtfonamgmfljhlaaDoor
open Go Go.AW
set_option maxRecDepth 100000

/-- A digit. -/
def dg (k : Nat) : UInt8 := UInt8.ofNat (48 + k)

/-- The number of digits. -/
def nd (b n : Nat) : Nat := if h : n < b ∨ b < 2 then 1 else nd b (n / b) + 1
termination_by n
decreasing_by simp at h; exact Nat.div_lt_self (by omega) (by omega)

/-- The digits. -/
def tx (b n : Nat) : List UInt8 := if h : n < b ∨ b < 2 then [dg (n % b)] else tx b (n / b) ++ [dg (n % b)]
termination_by n
decreasing_by simp at h; exact Nat.div_lt_self (by omega) (by omega)

theorem nd_lt {b n : Nat} (h : n < b) : nd b n = 1 := by rw [nd, dif_pos (.inl h)]
theorem nd_ge {b n : Nat} (hb : 2 ≤ b) (h : b ≤ n) : nd b n = nd b (n / b) + 1 := by rw [nd, dif_neg (by omega)]
theorem tx_lt {b n : Nat} (h : n < b) : tx b n = [dg (n % b)] := by rw [tx, dif_pos (.inl h)]
theorem tx_ge {b n : Nat} (hb : 2 ≤ b) (h : b ≤ n) : tx b n = tx b (n / b) ++ [dg (n % b)] := by rw [tx, dif_neg (by omega)]

theorem nd_pos (b n : Nat) : 1 ≤ nd b n := by unfold nd; split <;> omega

theorem tx_len (b n : Nat) : (tx b n).length = nd b n := by
  induction n using Nat.strongRecOn with
  | _ n ih =>
    unfold tx nd
    split
    · rfl
    · rename_i h
      simp [ih (n / b) (Nat.div_lt_self (by omega) (by omega))]

theorem nd_le (b n : Nat) (hb : 8 ≤ b) (hn : n < 9223372036854775808) : nd b n ≤ 21 := by
  have key : ∀ k n : Nat, n < 8 ^ (k + 1) → nd b n ≤ k + 1 := by
    intro k
    induction k with
    | zero => intro n hn; rw [nd_lt (by omega)]; omega
    | succ k ih =>
      intro n hn
      by_cases h : n < b
      · rw [nd_lt h]; omega
      · rw [nd_ge (by omega) (by omega)]
        have h1 : n / b ≤ n / 8 := Nat.div_le_div_left hb (by omega)
        have h2 : n / 8 < 8 ^ (k + 1) := by rw [Nat.div_lt_iff_lt_mul (by omega)]; rw [Nat.pow_succ] at hn; omega
        have := ih (n / b) (by omega)
        omega
  exact key 20 n (by simpa using hn)

theorem digit_at (k : Nat) (h : k < 10) : List.take 1 (List.drop k [48, 49, 50, 51, 52, 53, 54, 55, 56, 57]) = [dg k] := by
  revert k; decide

theorem rev_ind {α : Type} {P : List α → Prop} (h0 : P []) (h1 : ∀ l c, P l → P (l ++ [c])) (l : List α) : P l := by
  have key : ∀ r : List α, P r.reverse := by
    intro r
    induction r with
    | nil => exact h0
    | cons c r ih => rw [List.reverse_cons]; exact h1 _ _ ih
  have := key l.reverse
  rwa [List.reverse_reverse] at this
theorem mem_tw {α : Type} {p : α → Bool} {c : α} : ∀ {l : List α}, c ∈ l.takeWhile p → p c = true
  | [], h => by simp at h
  | x :: l, h => by
    rw [List.takeWhile_cons] at h
    split at h
    · rename_i hx
      rcases List.mem_cons.1 h with e | e
      · subst e; exact hx
      · exact mem_tw e
    · simp at h

/-- Is it a digit? -/
def isd (b : Nat) (c : UInt8) : Bool := decide (48 ≤ c.toNat ∧ c.toNat - 48 < b)
/-- The leading digits. -/
def ld (b : Nat) (l : List UInt8) : List UInt8 := l.takeWhile (isd b)
/-- The number that digits denote. -/
def vl (b : Nat) (l : List UInt8) : Nat := l.foldl (fun n c => n * b + (c.toNat - 48)) 0
/-- A field whose digits stand in order, with spaces behind them. -/
def okf (b : Nat) (l : List UInt8) : Prop := ld b l ≠ [] ∧ ¬ (1 < (ld b l).length ∧ l[0]? = some 48) ∧ ∀ y ∈ l.drop (ld b l).length, y = 32
instance (b : Nat) (l : List UInt8) : Decidable (okf b l) := by unfold okf; infer_instance
/-- What 'Parse' answers: the number and the error. -/
def prsE (l : List UInt8) (b : Int) : Nat := if ¬ (b = 8 ∨ b = 10) ∨ l.length < 1 ∨ 18 < l.length then 13 else if okf b.toNat l then 0 else 3
def prsN (l : List UInt8) (b : Int) : Nat := if prsE l b = 0 then vl b.toNat (ld b.toNat l) else 0

theorem vl_snoc (b : Nat) (l : List UInt8) (c : UInt8) : vl b (l ++ [c]) = vl b l * b + (c.toNat - 48) := by simp [vl]

theorem vl_lt (b : Nat) (hb : 1 ≤ b) (l : List UInt8) (h : ∀ c ∈ l, isd b c = true) : vl b l < b ^ l.length := by
  induction l using rev_ind with
  | h0 => simp [vl]
  | h1 l c ih =>
    rw [vl_snoc, List.length_append, List.length_singleton, Nat.pow_succ]
    have h1 := ih fun c hc => h c (by simp [hc])
    have h2 := h c (by simp)
    simp [isd] at h2
    have h3 : (vl b l + 1) * b ≤ b ^ l.length * b := Nat.mul_le_mul_right b h1
    rw [Nat.add_mul] at h3
    omega

theorem dg_sub (c : UInt8) (b : Nat) (hb : b ≤ 10) (h : isd b c = true) : dg (c.toNat - 48) = c := by
  simp [isd] at h
  apply UInt8.toNat_inj.1
  simp [dg]
  omega

theorem dg_toNat (k : Nat) (h : k < 10) : (dg k).toNat = 48 + k := by simp [dg]; omega

theorem isd_dg (b k : Nat) (hb : b ≤ 10) (h : k < b) : isd b (dg k) = true := by
  simp [isd, dg_toNat k (by omega)]; omega

theorem tx_isd (b n : Nat) (hb : 2 ≤ b ∧ b ≤ 10) : ∀ c ∈ tx b n, isd b c = true := by
  induction n using Nat.strongRecOn with
  | _ n ih =>
    have hm := Nat.mod_lt n (show 0 < b by omega)
    by_cases h : n < b
    · rw [tx_lt h]; intro c hc; simp at hc; subst hc; exact isd_dg b _ hb.2 hm
    · rw [tx_ge hb.1 (by omega)]
      intro c hc
      rcases List.mem_append.1 hc with hc | hc
      · exact ih (n / b) (Nat.div_lt_self (by omega) (by omega)) c hc
      · simp at hc; subst hc; exact isd_dg b _ hb.2 hm

theorem vl_tx (b n : Nat) (hb : 2 ≤ b ∧ b ≤ 10) : vl b (tx b n) = n := by
  induction n using Nat.strongRecOn with
  | _ n ih =>
    have hm := Nat.mod_lt n (show 0 < b by omega)
    by_cases h : n < b
    · rw [tx_lt h, Nat.mod_eq_of_lt h]
      simp [vl, dg_toNat n (by omega)]
    · rw [tx_ge hb.1 (by omega), vl_snoc, ih (n / b) (Nat.div_lt_self (by omega) (by omega)), dg_toNat _ (by omega)]
      have := Nat.div_add_mod n b
      rw [Nat.mul_comm] at this
      omega

theorem vl_pos (b : Nat) (hb : 2 ≤ b) (l : List UInt8) (h : ∀ c ∈ l, isd b c = true) (hne : l ≠ []) (h0 : l[0]? ≠ some 48) : 1 ≤ vl b l := by
  induction l using rev_ind with
  | h0 => exact absurd rfl hne
  | h1 l c ih =>
    rw [vl_snoc]
    by_cases hl : l = []
    · subst hl
      have h2 := h c (by simp)
      simp [isd] at h2
      have : c.toNat ≠ 48 := fun e => h0 (by simp; exact UInt8.toNat_inj.1 (by simpa using e))
      omega
    · have h1 := ih (fun c hc => h c (by simp [hc])) hl (by rwa [List.getElem?_append_left (List.length_pos_iff.2 hl)] at h0)
      have := Nat.mul_le_mul_right b h1
      omega

theorem tx_vl (b : Nat) (hb : 2 ≤ b ∧ b ≤ 10) (l : List UInt8) (h : ∀ c ∈ l, isd b c = true) (hne : l ≠ []) (h0 : ¬ (1 < l.length ∧ l[0]? = some 48)) : tx b (vl b l) = l := by
  induction l using rev_ind with
  | h0 => exact absurd rfl hne
  | h1 l c ih =>
    have h2 := h c (by simp)
    have h2' := h2
    simp [isd] at h2'
    rw [vl_snoc]
    by_cases hl : l = []
    · subst hl
      have : vl b [] = 0 := rfl
      rw [this, Nat.zero_mul, Nat.zero_add, tx_lt (by omega), Nat.mod_eq_of_lt (by omega), dg_sub c b hb.2 h2]
      rfl
    · have hpos := List.length_pos_iff.2 hl
      have h00 : l[0]? ≠ some 48 := fun e => h0 ⟨by simp; omega, by rw [List.getElem?_append_left hpos]; exact e⟩
      have hv := vl_pos b hb.1 l (fun c hc => h c (by simp [hc])) hl h00
      have hge : b ≤ vl b l * b + (c.toNat - 48) := by have := Nat.mul_le_mul_right b hv; omega
      rw [tx_ge hb.1 hge]
      have e1 : (vl b l * b + (c.toNat - 48)) / b = vl b l := by
        rw [Nat.mul_comm, Nat.mul_add_div (by omega), Nat.div_eq_of_lt (by omega)]; omega
      have e2 : (vl b l * b + (c.toNat - 48)) % b = c.toNat - 48 := by
        rw [Nat.mul_comm, Nat.mul_add_mod, Nat.mod_eq_of_lt (by omega)]
      rw [e1, e2, dg_sub c b hb.2 h2, ih (fun c hc => h c (by simp [hc])) hl (fun hh => h00 hh.2)]

theorem tx_head (b n : Nat) (hb : 2 ≤ b ∧ b ≤ 10) (h : 1 < (tx b n).length) : (tx b n)[0]? ≠ some 48 := by
  induction n using Nat.strongRecOn with
  | _ n ih =>
    by_cases hlt : n < b
    · rw [tx_lt hlt] at h; simp at h
    · have hge : b ≤ n := by omega
      have hpos : 0 < (tx b (n / b)).length := by rw [tx_len]; exact nd_pos _ _
      rw [tx_ge hb.1 hge, List.getElem?_append_left hpos]
      by_cases h2 : n / b < b
      · rw [tx_lt h2, Nat.mod_eq_of_lt h2]
        have h3 : 1 ≤ n / b := by rw [Nat.le_div_iff_mul_le (by omega)]; omega
        simp
        intro e
        have := dg_toNat (n / b) (by omega)
        rw [e] at this
        simp at this; omega
      · refine ih (n / b) (Nat.div_lt_self (by omega) (by omega)) ?_
        have h2' := Nat.le_of_not_lt h2
        rw [tx_len, nd_ge hb.1 h2']
        have := nd_pos b (n / b / b)
        omega

theorem ld_isd (b : Nat) (l : List UInt8) : ∀ c ∈ ld b l, isd b c = true := fun c hc => mem_tw hc

theorem ld_append (b : Nat) (l m : List UInt8) (h : ∀ c ∈ l, isd b c = true) (hm : ∀ c, m[0]? = some c → isd b c = false) : ld b (l ++ m) = l := by
  unfold ld
  rw [List.takeWhile_append_of_pos h]
  cases m with
  | nil => simp
  | cons c m =>
    have := hm c rfl
    simp [List.takeWhile_cons, this]

theorem ld_split (b : Nat) (l : List UInt8) : l = ld b l ++ l.drop (ld b l).length := by
  have h1 : ld b l ++ l.dropWhile (isd b) = l := List.takeWhile_append_dropWhile
  have h2 : (ld b l ++ l.dropWhile (isd b)).drop (ld b l).length = l.dropWhile (isd b) := by simp
  rw [h1] at h2
  rw [h2]; exact h1.symm

theorem isd_space (b : Nat) (hb : b ≤ 10) : isd b 32 = false := by simp [isd]

/-- The error of 'Format'. -/
def fmtE (n b w : Int) : Nat := if ¬ (b = 8 ∨ b = 10) ∨ w < 1 ∨ w > 18 then 13 else if n < 0 ∨ w < nd b.toNat n.toNat then 9 else 0
/-- The field of 'Format'. -/
def fmtL (n b w : Int) : List UInt8 := if fmtE n b w = 0 then tx b.toNat n.toNat ++ List.replicate (w.toNat - nd b.toNat n.toNat) 32 else []


/-- The two ways to say that a field is accepted. -/
theorem okf_iff (b : Nat) (l : List UInt8) (hb : b = 8 ∨ b = 10) (hl : 1 ≤ l.length ∧ l.length ≤ 18) :
    okf b l ↔ ld b l ≠ [] ∧ fmtE (vl b (ld b l)) b l.length = 0 ∧ fmtL (vl b (ld b l)) b l.length = l := by
  have hb2 : 2 ≤ b ∧ b ≤ 10 := by omega
  have hsp := ld_split b l
  have hll : (ld b l).length ≤ l.length := by
    have := congrArg List.length hsp
    simp at this; omega
  have hg : ¬ (¬ ((b : Int) = 8 ∨ (b : Int) = 10) ∨ (l.length : Int) < 1 ∨ (l.length : Int) > 18) := by omega
  have fmt : ∀ n : Nat, nd b n ≤ l.length → fmtE n b l.length = 0 ∧ fmtL n b l.length = tx b n ++ List.replicate (l.length - nd b n) 32 := by
    intro n hn
    have hE : fmtE n b l.length = 0 := by
      rw [fmtE, if_neg hg, if_neg]
      simp; omega
    refine ⟨hE, ?_⟩
    rw [fmtL, if_pos hE]; simp
  constructor
  · rintro ⟨h1, h2, h3⟩
    have h2' : ¬ (1 < (ld b l).length ∧ (ld b l)[0]? = some 48) := by
      intro ⟨h, h'⟩
      refine h2 ⟨h, ?_⟩
      rw [hsp, List.getElem?_append_left (List.length_pos_iff.2 h1)]; exact h'
    have ht := tx_vl b hb2 (ld b l) (ld_isd b l) h1 h2'
    have hnd : nd b (vl b (ld b l)) = (ld b l).length := by rw [← tx_len, ht]
    obtain ⟨f1, f2⟩ := fmt (vl b (ld b l)) (by omega)
    refine ⟨h1, f1, ?_⟩
    rw [f2, ht, hnd]
    conv => rhs; rw [hsp]
    congr 1
    exact (List.eq_replicate_iff.2 ⟨by simp, h3⟩).symm
  · rintro ⟨h1, h2, h3⟩
    have hnd : nd b (vl b (ld b l)) ≤ l.length := by
      unfold fmtE at h2
      rw [if_neg hg] at h2
      split at h2
      · omega
      · rename_i h; simp at h; omega
    obtain ⟨f1, f2⟩ := fmt _ hnd
    rw [f2] at h3
    generalize hn : vl b (ld b l) = n at *
    have hld : ld b l = tx b n := by
      rw [← h3]
      refine ld_append b _ _ (tx_isd b n hb2) fun c hc => ?_
      have := List.mem_of_getElem? hc
      rw [List.mem_replicate] at this
      rw [this.2]; exact isd_space b hb2.2
    refine ⟨h1, ?_, ?_⟩
    · rintro ⟨k1, k2⟩
      rw [hld] at k1
      rw [← h3, List.getElem?_append_left (by omega)] at k2
      exact tx_head b n hb2 k1 k2
    · rw [hld]
      intro y hy
      rw [← h3, List.drop_left] at hy
      exact (List.mem_replicate.1 hy).2

theorem rep_set (k : Nat) (a x : UInt8) (t : List UInt8) : (List.replicate (k + 1) a ++ t).set k x = List.replicate k a ++ x :: t := by
  induction k with
  | zero => rfl
  | succ k ih => simp only [List.replicate_succ, List.cons_append, List.set_cons_succ] at ih ⊢; rw [ih]
theorem rep_fill (i k : Nat) (a x : UInt8) : (List.replicate i x ++ List.replicate (k + 1) a).set i x = List.replicate (i + 1) x ++ List.replicate k a := by
  induction i with
  | zero => rfl
  | succ i ih => rw [List.replicate_succ, List.cons_append, List.set_cons_succ, ih, List.replicate_succ (n := i + 1), List.cons_append]

theorem dg_wrap (k : Nat) (h : k < 10) : IntKind.u8.wrap (48 + (k : Int)) = ((dg k).toNat : Int) := by
  revert k; decide
theorem dg_set (l : List UInt8) (j k : Nat) : (l.map byteV).set j (.c (.int .u8 (dg k).toNat)) = (l.set j (dg k)).map byteV := by
  rw [List.map_set]; rfl


end Go.Proofs.YtfonamgmfljhlaaDoor
