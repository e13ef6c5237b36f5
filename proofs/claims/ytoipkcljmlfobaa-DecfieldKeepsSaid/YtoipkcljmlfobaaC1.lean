/- Contracts of the functions of layer 1: what they compute on every argument, part 1: bases, blanks, comparison, digits, Format. Conditions: those that each theorem names. -/
import Derived.Test.YtoipkcljmlfobaaAwT
import Derived.Test.YtoipkcljmlfobaaAw16
set_option linter.unusedVariables false
set_option linter.unusedSimpArgs false
namespace Go.Proofs.Ytoipkcljmlfobaa
open Go Go.AW
noncomputable def E : Env := ⟨Try.prog, fun _ => none⟩
@[simp] theorem E_P : E.P = Try.prog := rfl
@[simp] theorem E_G : E.G = fun _ => none := rfl
set_option maxRecDepth 100000
set_option maxHeartbeats 8000000

/-- A digit. -/
def dg (k : Nat) : UInt8 := UInt8.ofNat (48 + k)

/-- The number of digits. -/
def nd (b n : Nat) : Nat := if h : n < b ∨ b < 2 then 1 else nd b (n / b) + 1
termination_by n
decreasing_by simp at h; exact Nat.div_lt_self (by omega) (by omega)

/-- The digits. -/
def tx (b n : Nat) : List UInt8 := if h : n < b ∨ b < 2 then [dg (n % b)] else tx b (n / b) ++ [dg (n % b)]
termination_by n
decreasing_by simp at h; exact Nat.div_lt_self (by omega) (by omega)

theorem nd_lt {b n : Nat} (h : n < b) : nd b n = 1 := by rw [nd, dif_pos (.inl h)]
theorem nd_ge {b n : Nat} (hb : 2 ≤ b) (h : b ≤ n) : nd b n = nd b (n / b) + 1 := by rw [nd, dif_neg (by omega)]
theorem tx_lt {b n : Nat} (h : n < b) : tx b n = [dg (n % b)] := by rw [tx, dif_pos (.inl h)]
theorem tx_ge {b n : Nat} (hb : 2 ≤ b) (h : b ≤ n) : tx b n = tx b (n / b) ++ [dg (n % b)] := by rw [tx, dif_neg (by omega)]

theorem nd_pos (b n : Nat) : 1 ≤ nd b n := by unfold nd; split <;> omega

theorem tx_len (b n : Nat) : (tx b n).length = nd b n := by
  induction n using Nat.strongRecOn with
  | _ n ih =>
    unfold tx nd
    split
    · rfl
    · rename_i h
      simp [ih (n / b) (Nat.div_lt_self (by omega) (by omega))]

theorem nd_le (b n : Nat) (hb : 8 ≤ b) (hn : n < 9223372036854775808) : nd b n ≤ 21 := by
  have key : ∀ k n : Nat, n < 8 ^ (k + 1) → nd b n ≤ k + 1 := by
    intro k
    induction k with
    | zero => intro n hn; rw [nd_lt (by omega)]; omega
    | succ k ih =>
      intro n hn
      by_cases h : n < b
      · rw [nd_lt h]; omega
      · rw [nd_ge (by omega) (by omega)]
        have h1 : n / b ≤ n / 8 := Nat.div_le_div_left hb (by omega)
        have h2 : n / 8 < 8 ^ (k + 1) := by rw [Nat.div_lt_iff_lt_mul (by omega)]; rw [Nat.pow_succ] at hn; omega
        have := ih (n / b) (by omega)
        omega
  exact key 20 n (by simpa using hn)

theorem digit_at (k : Nat) (h : k < 10) : List.take 1 (List.drop k [48, 49, 50, 51, 52, 53, 54, 55, 56, 57]) = [dg k] := by
  revert k; decide
theorem based_c (b : Int) (σ : Store) : ACalls E 19 [.c (.int .i64 b)] σ fun r σ' => r = .c (.bool (b == 8 || b == 10)) ∧ σ' = σ := by
  refine ACalls.enter Try.func19 rfl Try.ntmps19 Try.results19 (by simp) fun hσ => ?_
  refine AW.stepL [] [0] fun K hK => ?_
  simp; refine hK _ _ ?_; clear hK
  refine AW.stepL [] [2] fun K hK => ?_
  cases h8 : b == 8
  · simp [h8]; refine hK _ _ (AW.ret ?_); clear hK
    simp
    exact Fin.same (Nat.le_refl _) ⟨by first | rfl | (simp at h8; simp [h8]), rfl⟩
  · simp [h8]; refine hK _ _ (AW.ret ?_); clear hK
    simp
    exact Fin.same (Nat.le_refl _) ⟨by first | rfl | (simp at h8; simp [h8]), rfl⟩

theorem Based_c (b : Int) (σ : Store) : ACalls E 14 [.c (.int .i64 b)] σ fun r σ' => r = .c (.bool (b == 8 || b == 10)) ∧ σ' = σ := by
  refine ACalls.enter Try.func14 rfl Try.ntmps14 Try.results14 (by simp) fun hσ => ?_
  refine AW.stepL [] [0] fun K hK => ?_
  simp; refine hK _ _ ?_; clear hK
  refine AW.stepL [] [2] fun K hK => ?_
  cases h8 : b == 8
  · simp [h8]; refine hK _ _ (AW.ret ?_); clear hK
    simp
    exact Fin.same (Nat.le_refl _) ⟨by first | rfl | (simp at h8; simp [h8]), rfl⟩
  · simp [h8]; refine hK _ _ (AW.ret ?_); clear hK
    simp
    exact Fin.same (Nat.le_refl _) ⟨by first | rfl | (simp at h8; simp [h8]), rfl⟩

theorem Blank_c (l : List UInt8) (hl : l.length ≤ 9223372036854775807) (σ : Store) : ACalls E 18 [byts l] σ fun r σ' => r = .c (.bool (l.all (· == 32))) ∧ σ' = σ := by
  refine ACalls.enter Try.func18 rfl Try.ntmps18 Try.results18 (by simp) fun hσ => ?_
  refine AW.stepL [] [0] fun K hK => ?_
  simp
  refine hK _ _ ?_; clear hK
  refine AW.seqL [] fun K1 hK1 => ?_
  refine AW.stepL [] [5, 6, 7] fun K hK => ?_
  simp
  refine hK _ _ ?_; clear hK
  refine AW.block ?_
  refine AW.loopS (ι := Nat) (fun x => [(5, byts l), (6, .c (.int .i64 l.length)), (7, .c (.int .i64 x))]) (fun _ => σ) (fun i => i ≤ l.length ∧ ∀ y ∈ l.take i, y = 32) (fun x => l.length - x) 0 (fun _ _ => Nat.le_refl _) (by simp) rfl (by simp [Knows]) ?_
  rintro x ⟨hx, ha⟩
  refine AW.stepL [] [5, 6, 7, 8] fun K hK => ?_
  simp
  refine hK _ _ ?_; clear hK
  refine AW.seqL [5, 6, 7] fun K2 hK2 => ?_
  refine AW.cond (hb := by simp; rfl) (fun hb => ?_) (fun hb => ?_)
  · simp at hb
    refine AW.skip ?_
    simp
    refine hK2 _ _ ?_; clear hK2
    refine AW.seqL [5, 6, 7] fun K3 hK3 => ?_
    refine AW.block ?_
    obtain ⟨c, hc⟩ := get_ex hb
    refine AW.stepL [] [4, 5, 6, 7] fun K hK => ?_
    simp [hc]
    refine hK _ _ ?_; clear hK
    refine AW.stepL [] [5, 6, 7, 12] fun K hK => ?_
    simp
    refine hK _ _ ?_; clear hK
    refine AW.cond (hb := by simp; rfl) (fun hc32 => ?_) (fun hc32 => ?_)
    · simp at hc32
      refine AW.stepL [] [2] fun K hK => ?_
      simp
      refine hK _ _ ?_; clear hK
      refine AW.ret ?_
      simp
      refine Fin.same (Nat.le_refl _) ⟨?_, rfl⟩
      have : l.all (· == 32) = false := by
        rw [List.all_eq_false]
        exact ⟨c, List.mem_of_getElem? hc, by simpa using u8_ne_int (d := 32) hc32⟩
      rw [this]
    · simp at hc32
      refine AW.skip ?_
      simp
      refine hK3 _ _ ?_; clear hK3
      refine AW.region (ow := []) ?_
      simp (disch := omega) [wrap64_id]
      refine ⟨x + 1, ⟨hb, ?_⟩, by simp [Knows], by omega⟩
      rw [List.take_add_one, hc]
      intro y hy
      rcases List.mem_append.1 hy with h | h
      · exact ha y h
      · simp at h; subst h; exact u8_of_int (d := 32) hc32
  · simp at hb
    refine AW.exit ?_
    simp
    refine hK1 _ _ ?_; clear hK1
    refine AW.stepL [] [2] fun K hK => ?_
    simp
    refine hK _ _ ?_; clear hK
    refine AW.ret ?_
    simp
    refine Fin.same (Nat.le_refl _) ⟨?_, rfl⟩
    have : l.all (· == 32) = true := by
      rw [List.all_eq_true]
      intro y hy
      rw [List.take_of_length_le (by omega)] at ha
      simpa using ha y hy
    rw [this]

theorem Same_c (l m : List UInt8) (hl : l.length ≤ 9223372036854775807) (σ : Store) : ACalls E 16 [byts l, byts m] σ fun r σ' => r = .c (.bool (l == m)) ∧ σ' = σ := by
  refine ACalls.enter Try.func16 rfl Try.ntmps16 Try.results16 (by simp) fun hσ => ?_
  refine AW.stepL [] [0, 1] fun K hK => ?_
  simp
  refine hK _ _ ?_; clear hK
  refine AW.seqL [0, 1] fun K1 hK1 => ?_
  refine AW.stepL [] [0, 1, 10] fun K hK => ?_
  simp
  refine hK _ _ ?_; clear hK
  refine AW.cond (hb := by simp; rfl) (fun hb => ?_) (fun hb => ?_)
  · simp at hb
    refine AW.stepL [] [4] fun K hK => ?_
    simp
    refine hK _ _ ?_; clear hK
    refine AW.ret ?_
    simp
    refine Fin.same (Nat.le_refl _) ⟨?_, rfl⟩
    have : (l == m) = false := by simp; intro e; subst e; exact hb rfl
    rw [this]
  · simp at hb
    have hlm : l.length = m.length := by omega
    refine AW.skip ?_
    simp
    refine hK1 _ _ ?_; clear hK1
    refine AW.seqL [] fun K2 hK2 => ?_
    refine AW.stepL [] [0, 1, 5] fun K hK => ?_
    simp
    refine hK _ _ ?_; clear hK
    refine AW.block ?_
    refine AW.loopS (ι := Nat) (fun x => [(0, byts l), (1, byts m), (5, .c (.int .i64 x))]) (fun _ => σ) (fun x => x ≤ l.length ∧ l.take x = m.take x) (fun x => l.length - x) 0 (fun _ _ => Nat.le_refl _) (by simp) rfl (by simp [Knows]) ?_
    rintro x ⟨hx, he⟩
    refine AW.seqL [0, 1, 5] fun K3 hK3 => ?_
    refine AW.stepL [] [0, 1, 5, 14] fun K hK => ?_
    simp
    refine hK _ _ ?_; clear hK
    refine AW.cond (hb := by simp; rfl) (fun hlt => ?_) (fun hlt => ?_)
    · simp at hlt
      obtain ⟨c, hc⟩ := get_ex hlt
      obtain ⟨d, hd⟩ := get_ex (l := m) (i := x) (by omega)
      refine AW.skip ?_
      simp
      refine hK3 _ _ ?_; clear hK3
      refine AW.seqL [0, 1, 5] fun K4 hK4 => ?_
      refine AW.block ?_
      refine AW.stepR [] [0, 1, 5, 25] (by kernel_rfl) (by kernel_rfl) fun K hK => ?_
      simp [hc, hd]
      refine hK _ _ ?_; clear hK
      refine AW.cond (hb := by simp; rfl) (fun hcd => ?_) (fun hcd => ?_)
      · simp at hcd
        refine AW.stepL [] [4] fun K hK => ?_
        simp
        refine hK _ _ ?_; clear hK
        refine AW.ret ?_
        simp
        refine Fin.same (Nat.le_refl _) ⟨?_, rfl⟩
        have : (l == m) = false := by
          simp; intro e; subst e
          rw [hc] at hd; cases hd; exact hcd rfl
        rw [this]
      · simp at hcd
        refine AW.skip ?_
        simp
        refine hK4 _ _ ?_; clear hK4
        refine AW.region (ow := []) ?_
        simp (disch := omega) [wrap64_id]
        refine ⟨x + 1, ⟨hlt, ?_⟩, by simp [Knows], by omega⟩
        rw [List.take_add_one, List.take_add_one, hc, hd, he]
        have : c = d := UInt8.toNat_inj.1 (by omega)
        rw [this]
    · simp at hlt
      refine AW.exit ?_
      simp
      refine hK2 _ _ ?_; clear hK2
      refine AW.stepL [] [4] fun K hK => ?_
      simp
      refine hK _ _ ?_; clear hK
      refine AW.ret ?_
      simp
      refine Fin.same (Nat.le_refl _) ⟨?_, rfl⟩
      rw [List.take_of_length_le (by omega), List.take_of_length_le (by omega)] at he
      subst he; simp
theorem Text_c (b n : Nat) (hb : b = 8 ∨ b = 10) (hn : n < 9223372036854775808) (σ : Store) : ACalls E 15 [.c (.int .i64 n), .c (.int .i64 b)] σ fun r σ' => r = str (tx b n) ∧ σ' = σ := by
  induction n using Nat.strongRecOn with
  | _ n ih =>
  have hb0 : b ≠ 0 := by omega
  have hmod : n % b < 10 := by have := Nat.mod_lt n (show 0 < b by omega); omega
  have hm : (n : Int) % (b : Int) = ((n % b : Nat) : Int) := rfl
  have hq : (n : Int) / (b : Int) = ((n / b : Nat) : Int) := rfl
  have hdl : n / b ≤ n := Nat.div_le_self n b
  generalize hk : n % b = k at hm hmod
  generalize hqq : n / b = q at hq hdl
  refine ACalls.enter Try.func15 rfl Try.ntmps15 Try.results15 (by simp) fun hσ => ?_
  refine AW.stepL [] [0, 1] fun K hK => ?_
  simp
  refine hK _ _ ?_; clear hK
  refine AW.stepL [] [0, 1, 5] fun K hK => ?_
  simp
  refine hK _ _ ?_; clear hK
  refine AW.stepR [] [0, 1, 6] (by kernel_rfl) (by kernel_rfl) fun K hK => ?_
  simp (disch := omega) [wrap64_id, hb0, hm]
  refine ⟨by omega, by omega, ?_⟩
  rw [digit_at k hmod]
  refine hK _ _ ?_; clear hK
  refine AW.seqL [0, 1, 6] fun K1 hK1 => ?_
  refine AW.stepL [] [0, 1, 6, 18] fun K hK => ?_
  simp
  refine hK _ _ ?_; clear hK
  refine AW.cond (hb := by simp; rfl) (fun hlt => ?_) (fun hlt => ?_)
  · simp at hlt
    refine AW.stepL [] [4] fun K hK => ?_
    simp
    refine hK _ _ ?_; clear hK
    refine AW.ret ?_
    simp
    refine Fin.same (Nat.le_refl _) ⟨?_, rfl⟩
    rw [tx_lt hlt, hk]
  · simp at hlt
    refine AW.skip ?_
    simp
    refine hK1 _ _ ?_; clear hK1
    refine AW.stepL [] [4] fun K hK => ?_
    simp (disch := omega) [wrap64_id, hb0, hq]
    refine (ih q (by subst hqq; exact Nat.div_lt_self (by omega) (by omega)) (by omega)).mono ?_
    rintro r σ' ⟨rfl, rfl⟩
    have hlen : (tx b q).length ≤ 9223372036854775806 := by rw [tx_len]; exact Nat.le_trans (nd_le b q (by omega) (by omega)) (by decide)
    simp [hlen]
    refine hK _ _ ?_; clear hK
    refine AW.ret ?_
    simp
    refine Fin.same (Nat.le_refl _) ⟨?_, rfl⟩
    rw [tx_ge (by omega) hlt, hk, hqq]

/-- What 'Digits' answers. -/
def dgs (n b : Int) : Nat := if n < 0 ∨ ¬ (b = 8 ∨ b = 10) then 0 else nd b.toNat n.toNat

theorem Digits_c (n b : Int) (hn : n < 9223372036854775808) (σ : Store) : ACalls E 17 [.c (.int .i64 n), .c (.int .i64 b)] σ fun r σ' => r = .c (.int .i64 (dgs n b)) ∧ σ' = σ := by
  refine ACalls.enter Try.func17 rfl Try.ntmps17 Try.results17 (by simp) fun hσ => ?_
  refine AW.stepL [] [0, 1] fun K hK => ?_
  simp
  refine hK _ _ ?_; clear hK
  refine AW.seqL [0, 1] fun K1 hK1 => ?_
  refine AW.stepL [] [0, 1, 12] fun K hK => ?_
  by_cases hbad : n < 0 ∨ ¬ (b = 8 ∨ b = 10)
  · have : K [(0, .c (.int .i64 n)), (1, .c (.int .i64 b)), (12, .c (.bool true))] σ := by
      refine hK _ _ (AW.cond (b := true) (by simp) (fun _ => ?_) (fun h => by cases h)); clear hK
      refine AW.stepL [] [4] fun K hK => ?_
      simp
      refine hK _ _ ?_; clear hK
      refine AW.ret ?_
      simp
      exact Fin.same (Nat.le_refl _) ⟨by rw [dgs, if_pos hbad]; rfl, rfl⟩
    by_cases h0 : n < 0
    · simp [h0]; exact this
    · simp [h0]
      refine (based_c b σ).mono ?_
      rintro r σ' ⟨rfl, rfl⟩
      have hb : (b == 8 || b == 10) = false := by simpa [h0] using hbad
      simp [hb]; exact this
  · have h0 : ¬ n < 0 := fun h => hbad (.inl h)
    have hb : b = 8 ∨ b = 10 := Classical.byContradiction fun h => hbad (.inr h)
    have hb' : (b == 8 || b == 10) = true := by simpa using hb
    simp [h0]
    refine (based_c b σ).mono ?_
    rintro r σ' ⟨rfl, rfl⟩
    simp [hb']
    refine hK _ _ (AW.cond (b := false) (by simp) (fun h => by cases h) (fun _ => ?_)); clear hK
    refine AW.skip ?_
    simp
    refine hK1 _ _ ?_; clear hK1
    refine AW.stepL [] [0, 1, 5] fun K hK => ?_
    simp
    refine hK _ _ ?_; clear hK
    refine AW.seqL [5] fun K2 hK2 => ?_
    refine AW.block ?_
    obtain ⟨m, rfl⟩ : ∃ m : Nat, n = m := ⟨n.toNat, by omega⟩
    obtain ⟨c, rfl⟩ : ∃ c : Nat, b = c := ⟨b.toNat, by omega⟩
    have hd : dgs m c = nd c m := by rw [dgs, if_neg hbad]; rfl
    rw [hd]
    have hndm := nd_le c m (by omega) (by omega)
    refine AW.loopS (ι := Nat × Nat) (fun x => [(0, .c (.int .i64 x.1)), (1, .c (.int .i64 c)), (5, .c (.int .i64 x.2))]) (fun _ => σ') (fun x => nd c x.1 + x.2 = nd c m + 1 ∧ x.1 ≤ m) (fun x => x.1) (m, 1) (fun _ _ => Nat.le_refl _) (by simp) rfl (by simp [Knows]) ?_
    rintro ⟨x, y⟩ ⟨h1, h2⟩
    simp only at h1 h2
    have hx1 := nd_pos c x
    refine AW.seqL [0, 1, 5] fun K3 hK3 => ?_
    refine AW.stepL [] [0, 1, 5, 15] fun K hK => ?_
    simp
    refine hK _ _ ?_; clear hK
    refine AW.cond (hb := by simp; rfl) (fun hge => ?_) (fun hge => ?_)
    · simp at hge
      have hq : (x : Int) / (c : Int) = ((x / c : Nat) : Int) := rfl
      have hdl : x / c ≤ x := Nat.div_le_self x c
      have hlt : x / c < x := Nat.div_lt_self (by omega) (by omega)
      have hnd := nd_ge (b := c) (by omega) hge
      have hc0 : c ≠ 0 := by omega
      generalize x / c = q at hq hdl hlt hnd
      refine AW.skip ?_
      simp
      refine hK3 _ _ ?_; clear hK3
      refine AW.block ?_
      refine AW.stepL [] [0, 1, 5] fun K hK => ?_
      simp (disch := omega) [wrap64_id, hc0, hq]
      refine hK _ _ ?_; clear hK
      refine AW.region (ow := []) ?_
      simp (disch := omega) [wrap64_id]
      refine ⟨q, y + 1, ⟨by omega, by omega⟩, by simp [Knows], hlt⟩
    · simp at hge
      refine AW.exit ?_
      simp
      refine hK2 _ _ ?_; clear hK2
      refine AW.stepL [] [4] fun K hK => ?_
      simp
      refine hK _ _ ?_; clear hK
      refine AW.ret ?_
      simp
      refine Fin.same (Nat.le_refl _) ⟨?_, rfl⟩
      rw [nd_lt hge] at h1
      congr 2; omega
/-- The error of 'Format'. -/
def fmtE (n b w : Int) : Nat := if ¬ (b = 8 ∨ b = 10) ∨ w < 1 ∨ w > 18 then 13 else if n < 0 ∨ w < nd b.toNat n.toNat then 9 else 0
/-- The field of 'Format'. -/
def fmtL (n b w : Int) : List UInt8 := if fmtE n b w = 0 then tx b.toNat n.toNat ++ List.replicate (w.toNat - nd b.toNat n.toNat) 32 else []

theorem rep_set (k : Nat) (a x : UInt8) (t : List UInt8) : (List.replicate (k + 1) a ++ t).set k x = List.replicate k a ++ x :: t := by
  induction k with
  | zero => rfl
  | succ k ih => simp only [List.replicate_succ, List.cons_append, List.set_cons_succ] at ih ⊢; rw [ih]
theorem rep_fill (i k : Nat) (a x : UInt8) : (List.replicate i x ++ List.replicate (k + 1) a).set i x = List.replicate (i + 1) x ++ List.replicate k a := by
  induction i with
  | zero => rfl
  | succ i ih => rw [List.replicate_succ, List.cons_append, List.set_cons_succ, ih, List.replicate_succ (n := i + 1), List.cons_append]

theorem dg_wrap (k : Nat) (h : k < 10) : IntKind.u8.wrap (48 + (k : Int)) = ((dg k).toNat : Int) := by
  revert k; decide
theorem dg_set (l : List UInt8) (j k : Nat) : (l.map byteV).set j (.c (.int .u8 (dg k).toNat)) = (l.set j (dg k)).map byteV := by
  rw [List.map_set]; rfl

theorem Format_c (n b w : Int) (hn : n < 9223372036854775808) (σ : Store) : ACalls E 10 [.c (.int .i64 n), .c (.int .i64 b), .c (.int .i64 w)] σ fun r σ' =>
    (fmtE n b w = 0 ∧ r = .tup [.rs σ.next 0 0 w.toNat, .c (.int .i64 0)] ∧ σ' = σ.alloc (.arr 5 0 ((fmtL n b w).map byteV))) ∨ (fmtE n b w ≠ 0 ∧ r = .tup [.nl, .c (.int .i64 (fmtE n b w))] ∧ σ' = σ) := by
  refine ACalls.enter Try.func10 rfl Try.ntmps10 Try.results10 (by simp) fun hσ => ?_
  refine AW.stepL [] [0, 1, 2] fun K hK => ?_
  simp
  refine hK _ _ ?_; clear hK
  refine AW.seqL [0, 1, 2] fun K1 hK1 => ?_
  refine AW.stepL [] [0, 1, 2, 22] fun K hK => ?_
  simp
  refine (based_c b σ).mono ?_
  rintro r σ' ⟨rfl, rfl⟩
  by_cases hbad : ¬ (b = 8 ∨ b = 10) ∨ w < 1 ∨ w > 18
  · have : K [(0, .c (.int .i64 n)), (1, .c (.int .i64 b)), (2, .c (.int .i64 w)), (22, .c (.bool true))] σ' := by
      refine hK _ _ (AW.cond (b := true) (by simp) (fun _ => ?_) (fun h => by cases h)); clear hK
      refine AW.stepL [] [6, 7] fun K hK => ?_
      simp
      refine hK _ _ ?_; clear hK
      refine AW.ret ?_
      simp
      have hE : fmtE n b w = 13 := by rw [fmtE, if_pos hbad]
      exact Fin.same (Nat.le_refl _) (.inr ⟨by omega, by rw [hE]; rfl, rfl⟩)
    cases hb : (b == 8 || b == 10)
    · simp [hb]; exact this
    · have hw : w < 1 ∨ w > 18 := by simp at hb; omega
      by_cases h1 : w < 1
      · simp [hb, h1]; exact this
      · have h2 : 18 < w := by omega
        simp [hb, h1, h2]; exact this
  · have hb : b = 8 ∨ b = 10 := by omega
    have hb' : (b == 8 || b == 10) = true := by simpa using hb
    have h1 : ¬ w < 1 := by omega
    have h2 : ¬ 18 < w := by omega
    simp [hb', h1, h2]
    refine hK _ _ (AW.cond (b := false) (by simp) (fun h => by cases h) (fun _ => AW.skip ?_)); clear hK
    simp
    refine hK1 _ _ ?_; clear hK1
    refine AW.stepL [] [0, 1, 2, 8] fun K hK => ?_
    simp
    refine (Digits_c n b hn σ').mono ?_
    rintro r σ ⟨rfl, rfl⟩
    simp
    refine hK _ _ ?_; clear hK
    refine AW.seqL [0, 1, 2, 8] fun K2 hK2 => ?_
    refine AW.stepL [] [0, 1, 2, 8, 32] fun K hK => ?_
    by_cases hbad2 : n < 0 ∨ w < nd b.toNat n.toNat
    · have : K [(0, .c (.int .i64 n)), (1, .c (.int .i64 b)), (2, .c (.int .i64 w)), (8, .c (.int .i64 (dgs n b))), (32, .c (.bool true))] σ := by
        refine hK _ _ (AW.cond (b := true) (by simp) (fun _ => ?_) (fun h => by cases h)); clear hK
        refine AW.stepL [] [6, 7] fun K hK => ?_
        simp
        refine hK _ _ ?_; clear hK
        refine AW.ret ?_
        simp
        have hE : fmtE n b w = 9 := by rw [fmtE, if_neg hbad, if_pos hbad2]
        exact Fin.same (Nat.le_refl _) (.inr ⟨by omega, by rw [hE]; rfl, rfl⟩)
      by_cases h0 : n < 0
      · simp [h0]; exact this
      · have hd : dgs n b = nd b.toNat n.toNat := by rw [dgs, if_neg (by omega)]
        have h3 : w < (dgs n b : Int) := by rw [hd]; omega
        simp [h0, h3]; exact this
    · obtain ⟨m, rfl⟩ : ∃ m : Nat, n = m := ⟨n.toNat, by omega⟩
      obtain ⟨c, rfl⟩ : ∃ c : Nat, b = c := ⟨b.toNat, by omega⟩
      obtain ⟨v, rfl⟩ : ∃ v : Nat, w = v := ⟨w.toNat, by omega⟩
      have hE : fmtE m c v = 0 := by rw [fmtE, if_neg hbad, if_neg hbad2]
      have hL : fmtL m c v = tx c m ++ List.replicate (v - nd c m) 32 := by rw [fmtL, if_pos hE]; simp
      have hd : dgs m c = nd c m := by rw [dgs, if_neg (by omega)]; rfl
      have hdv : nd c m ≤ v := by simp at hbad2; omega
      have h0 : ¬ ((m : Int) < 0) := by omega
      have h3 : ¬ v < nd c m := by omega
      have hv18 : v ≤ 18 := by omega
      rw [hd]
      simp [h0, h3]
      refine hK _ _ (AW.cond (b := false) (by simp) (fun h => by cases h) (fun _ => AW.skip ?_)); clear hK
      simp
      refine hK2 _ _ ?_; clear hK2
      refine AW.stepL [] [0, 1, 2, 8, 9] fun K hK => ?_
      simp
      refine ⟨by omega, by omega, ?_⟩
      refine hK _ _ ?_; clear hK
      refine AW.seqL [0, 1, 8, 9] fun K3 hK3 => ?_
      refine AW.stepL [] [0, 1, 8, 9, 35, 36] fun K hK => ?_
      simp
      refine hK _ _ ?_; clear hK
      refine AW.block ?_
      refine AW.loopS (ι := List UInt8 × Nat) (fun x => [(0, .c (.int .i64 m)), (1, .c (.int .i64 c)), (8, .c (.int .i64 (nd c m))), (9, .rs σ.next 0 0 v), (35, .c (.int .i64 v)), (36, .c (.int .i64 x.2))]) (fun x => σ.alloc (.arr 5 0 (x.1.map byteV)))
        (fun x => x.2 ≤ v ∧ x.1 = List.replicate x.2 32 ++ List.replicate (v - x.2) 0) (fun x => v - x.2) (List.replicate v 0, 0) (fun _ _ => by simp) (by simp) (by simp) (by simp [Knows]) ?_
      rintro ⟨l, x⟩ ⟨hx, hl⟩
      simp only at hx hl
      have hll : l.length = v := by subst hl; simp; omega
      refine AW.stepL [] [0, 1, 8, 9, 35, 36, 37] fun K hK => ?_
      simp
      refine hK _ _ ?_; clear hK
      refine AW.seqL [0, 1, 8, 9, 35, 36] fun K4 hK4 => ?_
      refine AW.cond (hb := by simp; rfl) (fun hlt => ?_) (fun hlt => ?_)
      · simp at hlt
        obtain ⟨e, he⟩ := get_ex (l := l) (i := x) (by omega)
        refine AW.skip ?_
        simp
        refine hK4 _ _ ?_; clear hK4
        refine AW.seqL [0, 1, 8, 9, 35, 36] fun K5 hK5 => ?_
        refine AW.block ?_
        refine AW.stepL [] [0, 1, 8, 9, 10, 35, 36] fun K hK => ?_
        simp
        refine hK _ _ ?_; clear hK
        refine AW.region (ow := []) ?_
        simp [hlt, he]
        refine hK5 _ _ ?_; clear hK5
        refine AW.region (ow := []) ?_
        simp (disch := omega) [wrap64_id]
        refine ⟨l.set x 32, x + 1, ⟨hlt, ?_⟩, by simp [List.map_set], by simp [Knows], by omega⟩
        have e1 : v - x = (v - (x + 1)) + 1 := by omega
        rw [hl, e1, rep_fill]
      · simp at hlt
        have hxv : x = v := by omega
        subst hxv
        refine AW.exit ?_
        simp
        refine hK3 _ _ ?_; clear hK3
        refine AW.seqL [9] fun K6 hK6 => ?_
        refine AW.stepL [] [0, 1, 8, 9, 43, 44] fun K hK => ?_
        simp
        refine hK _ _ ?_; clear hK
        refine AW.block ?_
        refine AW.loopS (ι := List UInt8 × List UInt8 × Nat × Nat) (fun y => [(0, .c (.int .i64 y.2.2.2)), (1, .c (.int .i64 c)), (8, .c (.int .i64 (nd c m))), (9, .rs σ.next 0 0 x), (43, .c (.int .i64 (nd c m))), (44, .c (.int .i64 y.2.2.1))]) (fun y => σ.alloc (.arr 5 0 (y.1.map byteV)))
          (fun y => y.2.2.2 ≤ m ∧ y.1 = List.replicate (nd c m - y.2.2.1) 32 ++ (y.2.1 ++ List.replicate (x - nd c m) 32) ∧ y.2.1.length = y.2.2.1 ∧ (y.2.2.1 = nd c m ∧ y.2.1 = tx c m ∨ y.2.2.1 < nd c m ∧ tx c m = tx c y.2.2.2 ++ y.2.1 ∧ nd c y.2.2.2 = nd c m - y.2.2.1)) (fun y => nd c m - y.2.2.1) (l, [], 0, m) (fun _ _ => by simp) ?_ (by simp) (by simp [Knows]) ?_
        · refine ⟨Nat.le_refl _, ?_, rfl, .inr ⟨nd_pos c m, by simp, by simp⟩⟩
          rw [hl]
          simp only [Nat.sub_self, List.replicate_zero, List.append_nil, List.nil_append, Nat.sub_zero]
          rw [List.replicate_append_replicate]; congr 1; omega
        rintro ⟨l2, suf, i, q⟩ ⟨hqm, hl2, hsuf, hor⟩
        simp only at hqm hl2 hsuf hor
        have hl2l : l2.length = x := by
          have hi : i ≤ nd c m := by omega
          subst hl2; simp [hsuf]; omega
        refine AW.stepL [] [0, 1, 8, 9, 43, 44, 45] fun K hK => ?_
        simp
        refine hK _ _ ?_; clear hK
        refine AW.seqL [0, 1, 8, 9, 43, 44] fun K7 hK7 => ?_
        refine AW.cond (hb := by simp; rfl) (fun hlt2 => ?_) (fun hlt2 => ?_)
        · simp at hlt2
          obtain ⟨_, htx, hnd⟩ : i < nd c m ∧ tx c m = tx c q ++ suf ∧ nd c q = nd c m - i := by
            rcases hor with h | h
            · omega
            · exact h
          have hc0 : c ≠ 0 := by omega
          have hmod : q % c < 10 := by have := Nat.mod_lt q (show 0 < c by omega); omega
          have hm1 : (q : Int) % (c : Int) = ((q % c : Nat) : Int) := rfl
          have hq1 : (q : Int) / (c : Int) = ((q / c : Nat) : Int) := rfl
          have hdl : q / c ≤ q := Nat.div_le_self q c
          have htq : (q < c ∧ tx c q = [dg (q % c)] ∧ nd c q = 1) ∨ (tx c q = tx c (q / c) ++ [dg (q % c)] ∧ nd c q = nd c (q / c) + 1) := by
            by_cases h : q < c
            · exact .inl ⟨h, tx_lt h, nd_lt h⟩
            · exact .inr ⟨tx_ge (by omega) (by omega), nd_ge (by omega) (by omega)⟩
          have hnp := nd_pos c (q / c)
          generalize hk : q % c = k at hm1 hmod htq
          generalize hqq : q / c = q2 at hq1 hdl htq hnp
          have hix : ((nd c m : Int) - 1 - i).toNat = nd c m - 1 - i := by omega
          have hge : (0 : Int) ≤ (nd c m : Int) - 1 - i := by omega
          have hltx : (nd c m : Int) - 1 - i < x := by omega
          obtain ⟨e, he⟩ := get_ex (l := l2) (i := nd c m - 1 - i) (by omega)
          refine AW.skip ?_
          simp
          refine hK7 _ _ ?_; clear hK7
          refine AW.seqL [0, 1, 8, 9, 43, 44] fun K8 hK8 => ?_
          refine AW.block ?_
          refine AW.stepL [] [0, 1, 8, 9, 11, 43, 44] fun K hK => ?_
          simp
          refine hK _ _ ?_; clear hK
          refine AW.stepL [] [0, 1, 8, 9, 43, 44] fun K hK => ?_
          simp (disch := omega) [wrap64_id, hc0, hm1, hix, hge, hltx, he]
          refine ⟨by omega, ?_⟩
          rw [dg_wrap k hmod, dg_set]
          refine hK _ _ ?_; clear hK
          refine AW.region (ow := []) ?_
          simp (disch := omega) [wrap64_id, hc0, hq1]
          refine hK8 _ _ ?_; clear hK8
          refine AW.region (ow := []) ?_
          simp (disch := omega) [wrap64_id]
          refine ⟨l2.set (nd c m - 1 - i) (dg k), dg k :: suf, i + 1, q2, ⟨by omega, ?_, by simp [hsuf], ?_⟩, by rw [← dg_set], by simp [Knows], by omega⟩
          · have e1 : nd c m - i = (nd c m - (i + 1)) + 1 := by omega
            have e2 : nd c m - 1 - i = nd c m - (i + 1) := by omega
            rw [hl2, e1, e2, rep_set]; rfl
          · rcases htq with ⟨t1, t2, t3⟩ | ⟨t2, t3⟩
            · refine .inl ⟨by omega, ?_⟩
              rw [htx, t2]; rfl
            · refine .inr ⟨by omega, ?_, by omega⟩
              rw [htx, t2]; simp
        · simp at hlt2
          obtain ⟨hi, hs⟩ : i = nd c m ∧ suf = tx c m := by
            rcases hor with h | h
            · exact h
            · omega
          refine AW.exit ?_
          simp
          refine hK6 _ _ ?_; clear hK6
          refine AW.stepL [] [6, 7] fun K hK => ?_
          simp
          refine hK _ _ ?_; clear hK
          refine AW.ret ?_
          simp
          refine Fin.same (by simp) (.inl ⟨hE, by simp, ?_⟩)
          rw [hL, hl2, hs, hi]; simp

theorem Format_s (n b w : Int) (hn : n < 9223372036854775808) (σ : Store) : ACalls E 10 [.c (.int .i64 n), .c (.int .i64 b), .c (.int .i64 w)] σ fun r σ' =>
    r = .tup [byts (fmtL n b w), .c (.int .i64 (fmtE n b w))] ∧ σ' = σ := by
  refine (Format_c n b w hn σ).fin ?_
  rintro hb r σ' (⟨h1, rfl, rfl⟩ | ⟨h1, rfl, rfl⟩)
  · have hlen : (fmtL n b w).length = w.toNat := by
      have hw : ¬ (¬ (b = 8 ∨ b = 10) ∨ w < 1 ∨ w > 18) ∧ ¬ (n < 0 ∨ w < nd b.toNat n.toNat) := by
        unfold fmtE at h1
        split at h1
        · omega
        · rename_i h
          split at h1
          · omega
          · rename_i h2; exact ⟨h, h2⟩
      rw [fmtL, if_pos h1, List.length_append, tx_len, List.length_replicate]; omega
    refine Fin.back hb (by simp) ?_ ?_ (by simp) ⟨rfl, rfl⟩
    · intro i o h
      have := (hb i o h).1
      simp [Nat.ne_of_lt this, h]
    · refine .tup _ _ rfl ?_
      intro j x y hx hy
      match j, hx, hy with
      | 0, hx, hy =>
        obtain rfl := Option.some.inj hx
        obtain rfl := Option.some.inj hy
        refine SR.row (T := 5) (es := (fmtL n b w).map byteV) (by simp) ?_ (by simp; omega) (by rw [← hlen, List.drop_zero, List.take_of_length_le (by simp)])
        cases h : σ.get σ.next with
        | none => rfl
        | some o => exact absurd (hb _ _ h).1 (Nat.lt_irrefl _)
      | 1, hx, hy =>
        obtain rfl := Option.some.inj hx
        obtain rfl := Option.some.inj hy
        rw [h1]; exact .refl _
      | j + 2, hx, hy => simp at hx
  · refine ⟨.tup [byts (fmtL n b w), .c (.int .i64 (fmtE n b w))], _, ⟨Nat.le_refl _, Nat.le_refl _, fun _ _ h => h, .inl rfl⟩, .tup _ _ rfl ?_, .inl rfl, ⟨rfl, rfl⟩⟩
    intro j x y hx hy
    match j, hx, hy with
    | 0, hx, hy =>
      obtain rfl := Option.some.inj hx
      obtain rfl := Option.some.inj hy
      rw [fmtL, if_neg h1]; exact .nl
    | 1, hx, hy =>
      obtain rfl := Option.some.inj hx
      obtain rfl := Option.some.inj hy
      exact .refl _
    | j + 2, hx, hy => simp at hx
end Go.Proofs.Ytoipkcljmlfobaa
