/- Contracts of the functions of layer 1, part 2: Parse. Conditions: those that each theorem names. -/
import Derived.Test.YtoipkcljmlfobaaC1
set_option linter.unusedVariables false
set_option linter.unusedSimpArgs false
namespace Go.Proofs.Ytoipkcljmlfobaa
open Go Go.AW
set_option maxRecDepth 100000
set_option maxHeartbeats 8000000

theorem rev_ind {α : Type} {P : List α → Prop} (h0 : P []) (h1 : ∀ l c, P l → P (l ++ [c])) (l : List α) : P l := by
  have key : ∀ r : List α, P r.reverse := by
    intro r
    induction r with
    | nil => exact h0
    | cons c r ih => rw [List.reverse_cons]; exact h1 _ _ ih
  have := key l.reverse
  rwa [List.reverse_reverse] at this
theorem mem_tw {α : Type} {p : α → Bool} {c : α} : ∀ {l : List α}, c ∈ l.takeWhile p → p c = true
  | [], h => by simp at h
  | x :: l, h => by
    rw [List.takeWhile_cons] at h
    split at h
    · rename_i hx
      rcases List.mem_cons.1 h with e | e
      · subst e; exact hx
      · exact mem_tw e
    · simp at h

/-- Is it a digit? -/
def isd (b : Nat) (c : UInt8) : Bool := decide (48 ≤ c.toNat ∧ c.toNat - 48 < b)
/-- The leading digits. -/
def ld (b : Nat) (l : List UInt8) : List UInt8 := l.takeWhile (isd b)
/-- The number that digits denote. -/
def vl (b : Nat) (l : List UInt8) : Nat := l.foldl (fun n c => n * b + (c.toNat - 48)) 0
/-- A field whose digits stand in order, with spaces behind them. -/
def okf (b : Nat) (l : List UInt8) : Prop := ld b l ≠ [] ∧ ¬ (1 < (ld b l).length ∧ l[0]? = some 48) ∧ ∀ y ∈ l.drop (ld b l).length, y = 32
instance (b : Nat) (l : List UInt8) : Decidable (okf b l) := by unfold okf; infer_instance
/-- What 'Parse' answers: the number and the error. -/
def prsE (l : List UInt8) (b : Int) : Nat := if ¬ (b = 8 ∨ b = 10) ∨ l.length < 1 ∨ 18 < l.length then 13 else if okf b.toNat l then 0 else 3
def prsN (l : List UInt8) (b : Int) : Nat := if prsE l b = 0 then vl b.toNat (ld b.toNat l) else 0

theorem vl_snoc (b : Nat) (l : List UInt8) (c : UInt8) : vl b (l ++ [c]) = vl b l * b + (c.toNat - 48) := by simp [vl]

theorem vl_lt (b : Nat) (hb : 1 ≤ b) (l : List UInt8) (h : ∀ c ∈ l, isd b c = true) : vl b l < b ^ l.length := by
  induction l using rev_ind with
  | h0 => simp [vl]
  | h1 l c ih =>
    rw [vl_snoc, List.length_append, List.length_singleton, Nat.pow_succ]
    have h1 := ih fun c hc => h c (by simp [hc])
    have h2 := h c (by simp)
    simp [isd] at h2
    have h3 : (vl b l + 1) * b ≤ b ^ l.length * b := Nat.mul_le_mul_right b h1
    rw [Nat.add_mul] at h3
    omega

theorem dg_sub (c : UInt8) (b : Nat) (hb : b ≤ 10) (h : isd b c = true) : dg (c.toNat - 48) = c := by
  simp [isd] at h
  apply UInt8.toNat_inj.1
  simp [dg]
  omega

theorem dg_toNat (k : Nat) (h : k < 10) : (dg k).toNat = 48 + k := by simp [dg]; omega

theorem isd_dg (b k : Nat) (hb : b ≤ 10) (h : k < b) : isd b (dg k) = true := by
  simp [isd, dg_toNat k (by omega)]; omega

theorem tx_isd (b n : Nat) (hb : 2 ≤ b ∧ b ≤ 10) : ∀ c ∈ tx b n, isd b c = true := by
  induction n using Nat.strongRecOn with
  | _ n ih =>
    have hm := Nat.mod_lt n (show 0 < b by omega)
    by_cases h : n < b
    · rw [tx_lt h]; intro c hc; simp at hc; subst hc; exact isd_dg b _ hb.2 hm
    · rw [tx_ge hb.1 (by omega)]
      intro c hc
      rcases List.mem_append.1 hc with hc | hc
      · exact ih (n / b) (Nat.div_lt_self (by omega) (by omega)) c hc
      · simp at hc; subst hc; exact isd_dg b _ hb.2 hm

theorem vl_tx (b n : Nat) (hb : 2 ≤ b ∧ b ≤ 10) : vl b (tx b n) = n := by
  induction n using Nat.strongRecOn with
  | _ n ih =>
    have hm := Nat.mod_lt n (show 0 < b by omega)
    by_cases h : n < b
    · rw [tx_lt h, Nat.mod_eq_of_lt h]
      simp [vl, dg_toNat n (by omega)]
    · rw [tx_ge hb.1 (by omega), vl_snoc, ih (n / b) (Nat.div_lt_self (by omega) (by omega)), dg_toNat _ (by omega)]
      have := Nat.div_add_mod n b
      rw [Nat.mul_comm] at this
      omega

theorem vl_pos (b : Nat) (hb : 2 ≤ b) (l : List UInt8) (h : ∀ c ∈ l, isd b c = true) (hne : l ≠ []) (h0 : l[0]? ≠ some 48) : 1 ≤ vl b l := by
  induction l using rev_ind with
  | h0 => exact absurd rfl hne
  | h1 l c ih =>
    rw [vl_snoc]
    by_cases hl : l = []
    · subst hl
      have h2 := h c (by simp)
      simp [isd] at h2
      have : c.toNat ≠ 48 := fun e => h0 (by simp; exact UInt8.toNat_inj.1 (by simpa using e))
      omega
    · have h1 := ih (fun c hc => h c (by simp [hc])) hl (by rwa [List.getElem?_append_left (List.length_pos_iff.2 hl)] at h0)
      have := Nat.mul_le_mul_right b h1
      omega

theorem tx_vl (b : Nat) (hb : 2 ≤ b ∧ b ≤ 10) (l : List UInt8) (h : ∀ c ∈ l, isd b c = true) (hne : l ≠ []) (h0 : ¬ (1 < l.length ∧ l[0]? = some 48)) : tx b (vl b l) = l := by
  induction l using rev_ind with
  | h0 => exact absurd rfl hne
  | h1 l c ih =>
    have h2 := h c (by simp)
    have h2' := h2
    simp [isd] at h2'
    rw [vl_snoc]
    by_cases hl : l = []
    · subst hl
      have : vl b [] = 0 := rfl
      rw [this, Nat.zero_mul, Nat.zero_add, tx_lt (by omega), Nat.mod_eq_of_lt (by omega), dg_sub c b hb.2 h2]
      rfl
    · have hpos := List.length_pos_iff.2 hl
      have h00 : l[0]? ≠ some 48 := fun e => h0 ⟨by simp; omega, by rw [List.getElem?_append_left hpos]; exact e⟩
      have hv := vl_pos b hb.1 l (fun c hc => h c (by simp [hc])) hl h00
      have hge : b ≤ vl b l * b + (c.toNat - 48) := by have := Nat.mul_le_mul_right b hv; omega
      rw [tx_ge hb.1 hge]
      have e1 : (vl b l * b + (c.toNat - 48)) / b = vl b l := by
        rw [Nat.mul_comm, Nat.mul_add_div (by omega), Nat.div_eq_of_lt (by omega)]; omega
      have e2 : (vl b l * b + (c.toNat - 48)) % b = c.toNat - 48 := by
        rw [Nat.mul_comm, Nat.mul_add_mod, Nat.mod_eq_of_lt (by omega)]
      rw [e1, e2, dg_sub c b hb.2 h2, ih (fun c hc => h c (by simp [hc])) hl (fun hh => h00 hh.2)]

theorem tx_head (b n : Nat) (hb : 2 ≤ b ∧ b ≤ 10) (h : 1 < (tx b n).length) : (tx b n)[0]? ≠ some 48 := by
  induction n using Nat.strongRecOn with
  | _ n ih =>
    by_cases hlt : n < b
    · rw [tx_lt hlt] at h; simp at h
    · have hge : b ≤ n := by omega
      have hpos : 0 < (tx b (n / b)).length := by rw [tx_len]; exact nd_pos _ _
      rw [tx_ge hb.1 hge, List.getElem?_append_left hpos]
      by_cases h2 : n / b < b
      · rw [tx_lt h2, Nat.mod_eq_of_lt h2]
        have h3 : 1 ≤ n / b := by rw [Nat.le_div_iff_mul_le (by omega)]; omega
        simp
        intro e
        have := dg_toNat (n / b) (by omega)
        rw [e] at this
        simp at this; omega
      · refine ih (n / b) (Nat.div_lt_self (by omega) (by omega)) ?_
        have h2' := Nat.le_of_not_lt h2
        rw [tx_len, nd_ge hb.1 h2']
        have := nd_pos b (n / b / b)
        omega

theorem ld_isd (b : Nat) (l : List UInt8) : ∀ c ∈ ld b l, isd b c = true := fun c hc => mem_tw hc

theorem ld_append (b : Nat) (l m : List UInt8) (h : ∀ c ∈ l, isd b c = true) (hm : ∀ c, m[0]? = some c → isd b c = false) : ld b (l ++ m) = l := by
  unfold ld
  rw [List.takeWhile_append_of_pos h]
  cases m with
  | nil => simp
  | cons c m =>
    have := hm c rfl
    simp [List.takeWhile_cons, this]

theorem ld_split (b : Nat) (l : List UInt8) : l = ld b l ++ l.drop (ld b l).length := by
  have h1 : ld b l ++ l.dropWhile (isd b) = l := List.takeWhile_append_dropWhile
  have h2 : (ld b l ++ l.dropWhile (isd b)).drop (ld b l).length = l.dropWhile (isd b) := by simp
  rw [h1] at h2
  rw [h2]; exact h1.symm

theorem isd_space (b : Nat) (hb : b ≤ 10) : isd b 32 = false := by simp [isd]

/-- The two ways to say that a field is accepted. -/
theorem okf_iff (b : Nat) (l : List UInt8) (hb : b = 8 ∨ b = 10) (hl : 1 ≤ l.length ∧ l.length ≤ 18) :
    okf b l ↔ ld b l ≠ [] ∧ fmtE (vl b (ld b l)) b l.length = 0 ∧ fmtL (vl b (ld b l)) b l.length = l := by
  have hb2 : 2 ≤ b ∧ b ≤ 10 := by omega
  have hsp := ld_split b l
  have hll : (ld b l).length ≤ l.length := by
    have := congrArg List.length hsp
    simp at this; omega
  have hg : ¬ (¬ ((b : Int) = 8 ∨ (b : Int) = 10) ∨ (l.length : Int) < 1 ∨ (l.length : Int) > 18) := by omega
  have fmt : ∀ n : Nat, nd b n ≤ l.length → fmtE n b l.length = 0 ∧ fmtL n b l.length = tx b n ++ List.replicate (l.length - nd b n) 32 := by
    intro n hn
    have hE : fmtE n b l.length = 0 := by
      rw [fmtE, if_neg hg, if_neg]
      simp; omega
    refine ⟨hE, ?_⟩
    rw [fmtL, if_pos hE]; simp
  constructor
  · rintro ⟨h1, h2, h3⟩
    have h2' : ¬ (1 < (ld b l).length ∧ (ld b l)[0]? = some 48) := by
      intro ⟨h, h'⟩
      refine h2 ⟨h, ?_⟩
      rw [hsp, List.getElem?_append_left (List.length_pos_iff.2 h1)]; exact h'
    have ht := tx_vl b hb2 (ld b l) (ld_isd b l) h1 h2'
    have hnd : nd b (vl b (ld b l)) = (ld b l).length := by rw [← tx_len, ht]
    obtain ⟨f1, f2⟩ := fmt (vl b (ld b l)) (by omega)
    refine ⟨h1, f1, ?_⟩
    rw [f2, ht, hnd]
    conv => rhs; rw [hsp]
    congr 1
    exact (List.eq_replicate_iff.2 ⟨by simp, h3⟩).symm
  · rintro ⟨h1, h2, h3⟩
    have hnd : nd b (vl b (ld b l)) ≤ l.length := by
      unfold fmtE at h2
      rw [if_neg hg] at h2
      split at h2
      · omega
      · rename_i h; simp at h; omega
    obtain ⟨f1, f2⟩ := fmt _ hnd
    rw [f2] at h3
    generalize hn : vl b (ld b l) = n at *
    have hld : ld b l = tx b n := by
      rw [← h3]
      refine ld_append b _ _ (tx_isd b n hb2) fun c hc => ?_
      have := List.mem_of_getElem? hc
      rw [List.mem_replicate] at this
      rw [this.2]; exact isd_space b hb2.2
    refine ⟨h1, ?_, ?_⟩
    · rintro ⟨k1, k2⟩
      rw [hld] at k1
      rw [← h3, List.getElem?_append_left (by omega)] at k2
      exact tx_head b n hb2 k1 k2
    · rw [hld]
      intro y hy
      rw [← h3, List.drop_left] at hy
      exact (List.mem_replicate.1 hy).2
theorem Parse_c (l : List UInt8) (b : Int) (hl : l.length ≤ 9223372036854775807) (σ : Store) : ACalls E 12 [byts l, .c (.int .i64 b)] σ fun r σ' => r = .tup [.c (.int .i64 (prsN l b)), .c (.int .i64 (prsE l b))] ∧ σ' = σ := by
  refine ACalls.enter Try.func12 rfl Try.ntmps12 Try.results12 (by simp) fun hσ => ?_
  refine AW.stepL [] [0, 1] fun K hK => ?_
  simp
  refine hK _ _ ?_; clear hK
  refine AW.scope ?_
  refine AW.seqL [0, 1] fun K1 hK1 => ?_
  refine AW.stepL [] [0, 1, 22] fun K hK => ?_
  simp
  refine (based_c b σ).mono ?_
  rintro r σ' ⟨rfl, rfl⟩
  by_cases hbad : ¬ (b = 8 ∨ b = 10) ∨ l.length < 1 ∨ 18 < l.length
  · have hE : prsE l b = 13 := by rw [prsE, if_pos hbad]
    have hN : prsN l b = 0 := by rw [prsN, if_neg (by omega)]
    have : K [(0, byts l), (1, .c (.int .i64 b)), (22, .c (.bool true))] σ' := by
      refine hK _ _ (AW.cond (b := true) (by simp) (fun _ => ?_) (fun h => by cases h)); clear hK
      refine AW.stepL [] [4, 5] fun K hK => ?_
      simp
      refine hK _ _ ?_; clear hK
      refine AW.ret ?_
      simp [ANoGoto]
      exact Fin.same (Nat.le_refl _) ⟨by rw [hE, hN]; rfl, rfl⟩
    simp at this
    cases hb : (b == 8 || b == 10)
    · simp [hb]; exact this
    · have hw : l.length < 1 ∨ 18 < l.length := by simp at hb; omega
      by_cases h1 : (l.length : Int) < 1
      · simp [hb, h1]; exact this
      · have hlen : (18 : Int) < l.length := by omega
        simp [hb, h1, hlen]; exact this
  · have hb : b = 8 ∨ b = 10 := by omega
    have hb' : (b == 8 || b == 10) = true := by simpa using hb
    have h1 : ¬ (l.length : Int) < 1 := by omega
    have h2 : ¬ (18 : Int) < l.length := by omega
    have h3 : l ≠ [] := by intro e; subst e; simp at hbad
    simp [hb', h1, h2]
    refine hK _ _ (AW.cond (b := false) (by simp) (fun h => by cases h) (fun _ => AW.skip ?_)); clear hK
    simp
    refine hK1 _ _ ?_; clear hK1
    refine AW.stepL [] [0, 1, 6, 7] fun K hK => ?_
    simp
    refine hK _ _ ?_; clear hK
    refine AW.seqL [0, 1, 6, 7] fun K2 hK2 => ?_
    refine AW.label ?_
    simp
    refine hK2 _ _ ?_; clear hK2
    obtain ⟨c, rfl⟩ : ∃ c : Nat, b = c := ⟨b.toNat, by omega⟩
    have hc : c = 8 ∨ c = 10 := by omega
    have hsp := ld_split c l
    have hldl : (ld c l).length ≤ l.length := by
      have := congrArg List.length hsp
      simp at this; omega
    refine AW.seqL [0, 6, 7] fun K3 hK3 => ?_
    have hfin : K3 [(0, byts l), (6, .c (.int .i64 (vl c (ld c l)))), (7, .c (.int .i64 (ld c l).length))] σ' := by
      refine hK3 _ _ ?_; clear hK3
      refine AW.seqL [6] fun K7 hK7 => ?_
      refine AW.stepL [] [6, 72] fun K hK => ?_
      have bad : ¬ okf c l → K [(6, .c (.int .i64 (vl c (ld c l)))), (72, .c (.bool true))] σ' := by
        intro hno
        refine hK _ _ (AW.cond (b := true) (by simp) (fun _ => ?_) (fun h => by cases h)); clear hK
        refine AW.stepL [] [4, 5] fun K hK => ?_
        simp
        refine hK _ _ ?_; clear hK
        refine AW.ret ?_
        simp [ANoGoto]
        have hE : prsE l c = 3 := by rw [prsE, if_neg hbad, if_neg (by simpa using hno)]
        have hN : prsN l c = 0 := by rw [prsN, if_neg (by omega)]
        exact Fin.same (Nat.le_refl _) ⟨by rw [hE, hN]; rfl, rfl⟩
      have good : okf c l → K [(6, .c (.int .i64 (vl c (ld c l)))), (72, .c (.bool false))] σ' := by
        intro hok
        refine hK _ _ (AW.cond (b := false) (by simp) (fun h => by cases h) (fun _ => AW.skip ?_)); clear hK
        simp
        refine hK7 _ _ ?_; clear hK7
        refine AW.stepL [] [4, 5] fun K hK => ?_
        simp
        refine hK _ _ ?_; clear hK
        refine AW.ret ?_
        simp [ANoGoto]
        have hE : prsE l c = 0 := by rw [prsE, if_neg hbad, if_pos (by simpa using hok)]
        have hN : prsN l c = vl c (ld c l) := by rw [prsN, if_pos hE]; rfl
        exact Fin.same (Nat.le_refl _) ⟨by rw [hE, hN]; rfl, rfl⟩
      have fin : ∀ bl : Bool, bl = (l.drop (ld c l).length).all (· == 32) → okf c l ∨ bl = false ∨ ld c l = [] ∨ (1 < (ld c l).length ∧ l[0]? = some 48) := by
        intro bl hbl
        by_cases k1 : ld c l = []
        · exact .inr (.inr (.inl k1))
        · by_cases k2 : 1 < (ld c l).length ∧ l[0]? = some 48
          · exact .inr (.inr (.inr k2))
          · cases bl with
            | false => exact .inr (.inl rfl)
            | true =>
              refine .inl ⟨k1, k2, fun y hy => ?_⟩
              have := List.all_eq_true.1 hbl.symm y hy
              simpa using this
      obtain ⟨c0, hc0⟩ := get_ex (l := l) (i := 0) (List.length_pos_iff.2 h3)
      clear hK hK7
      generalize hbl : (l.drop (ld c l).length).all (· == 32) = bl
      have blank := Blank_c (l.drop (ld c l).length) (by simp; omega) σ'
      rw [hbl] at blank
      have hnb : bl = false → ¬ okf c l := by
        rintro rfl ⟨_, _, k⟩
        rw [List.all_eq_false] at hbl
        obtain ⟨y, h1, h2⟩ := hbl
        exact h2 (by simpa using k y h1)
      by_cases e0 : ld c l = []
      · have e0' : (ld c l).length = 0 := by rw [e0]; rfl
        simp [e0]
        simp [e0] at bad
        exact bad (by rintro ⟨k, _⟩; exact k e0)
      · have e0' : ¬ ((ld c l).length : Int) = 0 := by have := List.length_pos_iff.2 e0; omega
        by_cases e1 : (1 : Int) < (ld c l).length
        · by_cases e2 : (c0.toNat : Int) = 48
          · simp [e0, e1, hc0, e2]
            refine bad fun hok => hok.2.1 ⟨by omega, ?_⟩
            rw [hc0, u8_of_int (d := 48) e2]
          · simp [e0, e1, hc0, e2]
            simp only [byts, List.map_drop] at blank
            refine ⟨hldl, blank.mono ?_⟩
            rintro r σ' ⟨rfl, rfl⟩
            simp [e2]
            cases bl with
            | false => exact bad (hnb rfl)
            | true =>
              rcases fin true hbl.symm with h | h | h | h
              · exact good h
              · cases h
              · exact absurd h e0
              · exact absurd (by rw [hc0] at h; have := h.2; simp at this; subst this; rfl) e2
        · simp [e0, e1]
          simp only [byts, List.map_drop] at blank
          refine ⟨hldl, blank.mono ?_⟩
          rintro r σ' ⟨rfl, rfl⟩
          simp
          cases bl with
          | false => exact bad (hnb rfl)
          | true =>
            rcases fin true hbl.symm with h | h | h | h
            · exact good h
            · cases h
            · exact absurd h e0
            · exact absurd h.1 (by omega)
    refine AW.stepL [] [0, 1, 6, 7, 23, 24, 25] fun K hK => ?_
    simp
    refine hK _ _ ?_; clear hK
    refine AW.block ?_
    refine AW.loopS (ι := Nat) (fun x => [(0, byts l), (1, .c (.int .i64 c)), (6, .c (.int .i64 (vl c (l.take x)))), (7, .c (.int .i64 x)), (23, byts l), (24, .c (.int .i64 l.length)), (25, .c (.int .i64 x))]) (fun _ => σ') (fun x => x ≤ l.length ∧ ∀ y ∈ l.take x, isd c y = true) (fun x => l.length - x) 0 (fun _ _ => Nat.le_refl _) (by simp) rfl (by simp [Knows, vl]) ?_
    rintro x ⟨hx, hall⟩
    refine AW.stepL [] [0, 1, 6, 7, 23, 24, 25, 26] fun K hK => ?_
    simp
    refine hK _ _ ?_; clear hK
    refine AW.seqL [0, 1, 6, 23, 24, 25] fun K4 hK4 => ?_
    refine AW.cond (hb := by simp; rfl) (fun hlt => ?_) (fun hlt => ?_)
    · simp at hlt
      obtain ⟨d, hd⟩ := get_ex hlt
      have hvx : vl c (l.take x) < 10 ^ 17 := by
        have := vl_lt c (by omega) _ hall
        have h5 : c ^ (l.take x).length ≤ 10 ^ (l.take x).length := Nat.pow_le_pow_left (by omega) _
        have h6 : 10 ^ (l.take x).length ≤ 10 ^ 17 := Nat.pow_le_pow_right (by omega) (by simp; omega)
        omega
      have hdr : l.take (x + 1) = l.take x ++ [d] := by rw [List.take_add_one, hd]; rfl
      have hstop : isd c d = false → ld c l = l.take x := by
        intro hf
        conv => lhs; rw [← List.take_append_drop x l]
        exact ld_append c _ _ hall fun y hy => by rw [List.getElem?_drop, Nat.add_zero, hd] at hy; cases hy; exact hf
      refine AW.skip ?_
      simp
      refine hK4 _ _ ?_; clear hK4
      refine AW.seqL [0, 1, 6, 7, 23, 24, 25] fun K5 hK5 => ?_
      refine AW.block ?_
      refine AW.stepL [] [0, 1, 6, 8, 9, 23, 24, 25] fun K hK => ?_
      simp [hd]
      refine hK _ _ ?_; clear hK
      refine AW.seqL [0, 1, 6, 8, 9, 23, 24, 25] fun K6 hK6 => ?_
      refine AW.block ?_
      refine AW.stepL [] [0, 1, 6, 8, 9, 23, 24, 25, 30] fun K hK => ?_
      simp
      refine hK _ _ ?_; clear hK
      refine AW.cond (hb := by simp; rfl) (fun h32 => ?_) (fun h32 => ?_)
      · simp at h32
        have hd32 : d = 32 := u8_of_int (d := 32) h32
        have hst := hstop (by rw [hd32]; exact isd_space c (by omega))
        refine AW.stepL [] [0, 6, 7] fun K hK => ?_
        simp
        refine hK _ _ ?_; clear hK
        refine AW.exit ?_
        simp
        have hlx : (ld c l).length = x := by rw [hst]; simp; omega
        rw [hlx, hst] at hfin
        simpa using hfin
      · simp at h32
        refine AW.stepL [] [0, 1, 6, 8, 9, 23, 24, 25, 34] fun K hK => ?_
        have h256 : d.toNat < 256 := d.toNat_lt
        by_cases hdig : isd c d = true
        · have hdig' := hdig
          simp [isd] at hdig'
          have g1 : ¬ (d.toNat : Int) < 48 := by omega
          have hw : decide ((c : Int) ≤ IntKind.i64.wrap (IntKind.u8.wrap ((d.toNat : Int) - 48))) = false := by
            rw [wrap8_id (by omega) (by omega), wrap64_id (by omega) (by omega)]; simp; omega
          simp [g1]
          rw [hw]
          refine hK _ _ ?_; clear hK
          refine AW.cond (b := false) (by simp) (fun h => by cases h) (fun _ => AW.skip ?_)
          simp
          refine hK6 _ _ ?_; clear hK6
          refine AW.stepL [] [0, 1, 6, 8, 23, 24, 25] fun K hK => ?_
          have hmul : (vl c (l.take x) : Int) * c = ((vl c (l.take x) * c : Nat) : Int) := by simp
          have hmul2 : vl c (l.take x) * c ≤ 10 ^ 17 * 10 := Nat.mul_le_mul (by omega) (by omega)
          have hvs : vl c (l.take (x + 1)) = vl c (l.take x) * c + (d.toNat - 48) := by rw [hdr, vl_snoc]
          generalize vl c (l.take x) * c = p at hmul hmul2 hvs
          generalize vl c (l.take x) = v at *
          simp (disch := omega) [wrap64_id, wrap8_id, hmul]
          refine hK _ _ ?_; clear hK
          refine AW.region (ow := []) ?_
          simp (disch := omega) [wrap64_id]
          refine hK5 _ _ ?_; clear hK5
          refine AW.region (ow := []) ?_
          simp (disch := omega) [wrap64_id]
          refine ⟨x + 1, ⟨hlt, ?_⟩, ?_, by omega⟩
          · rw [hdr]
            intro y hy
            rcases List.mem_append.1 hy with h | h
            · exact hall y h
            · simp at h; subst h; exact hdig
          · rw [hvs]
            simp [Knows]; omega
        · have hnd : isd c d = false := by simpa using hdig
          have hst := hstop hnd
          have hlx : (ld c l).length = x := by rw [hst]; simp; omega
          have hE : prsE l c = 3 := by
            rw [prsE, if_neg hbad, if_neg]
            simp
            rintro ⟨_, _, k⟩
            have := k d (by rw [hlx]; exact List.mem_of_getElem? (by rw [List.getElem?_drop, Nat.add_zero]; exact hd))
            exact h32 (by rw [this]; rfl)
          have hN : prsN l c = 0 := by rw [prsN, if_neg (by omega)]
          have bad : K [(0, byts l), (1, .c (.int .i64 c)), (6, .c (.int .i64 (vl c (l.take x)))), (8, .c (.int .i64 x)), (9, byteV d), (23, byts l), (24, .c (.int .i64 l.length)), (25, .c (.int .i64 x)), (34, .c (.bool true))] σ' := by
            refine hK _ _ (AW.cond (b := true) (by simp) (fun _ => ?_) (fun h => by cases h)); clear hK
            refine AW.stepL [] [4, 5] fun K hK => ?_
            simp
            refine hK _ _ ?_; clear hK
            refine AW.ret ?_
            simp [ANoGoto]
            exact Fin.same (Nat.le_refl _) ⟨by rw [hE, hN]; rfl, rfl⟩
          simp at bad
          by_cases g1 : (d.toNat : Int) < 48
          · simp [g1]; exact bad
          · have hw : decide ((c : Int) ≤ IntKind.i64.wrap (IntKind.u8.wrap ((d.toNat : Int) - 48))) = true := by
              rw [wrap8_id (by omega) (by omega), wrap64_id (by omega) (by omega)]; simp [isd] at hnd; simp; omega
            simp [g1]
            rw [hw]
            exact bad
    · simp at hlt
      have hxl : x = l.length := by omega
      refine AW.exit ?_
      simp
      have hst : ld c l = l := by
        have := ld_append c l [] (by rw [hxl, List.take_length] at hall; exact hall) (by simp)
        simpa using this
      rw [hst] at hfin
      subst hxl
      simpa using hfin
end Go.Proofs.Ytoipkcljmlfobaa
