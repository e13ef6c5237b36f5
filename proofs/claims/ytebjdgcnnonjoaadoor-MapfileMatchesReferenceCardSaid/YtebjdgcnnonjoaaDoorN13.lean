/- One line, the reference's way, in plain words. No condition, no program. -/
import Derived.Test.YtebjdgcnnonjoaaDoorGH
set_option linter.unusedVariables false
set_option linter.unusedSimpArgs false
set_option linter.unnecessarySimpa false
namespace Go.Proofs.YtebjdgcnnonjoaaDoor
open Go Go.AW
set_option maxRecDepth 100000

/-- The binding found among those below i. -/
def rbu (c : W) (i : Nat) : Int := match bdW c with
  | some b => if b < i then b else 0
  | none => 0
theorem rbu_1 (c : W) : rbu c 1 = 0 := by
  unfold rbu
  cases h : bdW c with
  | none => rfl
  | some b => have := (bdW_iff.1 h).1; simp; omega
theorem rbu_s (c : W) (i : Nat) (h1 : 1 ≤ i) (h2 : i ≤ 5) : rbu c (i + 1) = if bnd (i : Int) = c then (i : Int) else rbu c i := by
  have hk : bnd (i : Int) = c ↔ bdW c = some (i : Int) := by
    rw [bdW_iff]
    exact ⟨fun e => ⟨by omega, e.symm⟩, fun e => e.2.symm⟩
  by_cases h : bnd (i : Int) = c
  · rw [if_pos h]
    unfold rbu
    rw [hk.1 h]
    simp
    omega
  · rw [if_neg h]
    unfold rbu
    cases hb : bdW c with
    | none => rfl
    | some b =>
      have : b ≠ (i : Int) := fun e => h (hk.2 (by rw [hb, e]))
      simp
      by_cases hlt : b < (i : Int)
      · rw [if_pos hlt, if_pos (by omega)]
      · rw [if_neg hlt, if_neg (by omega)]
theorem rbu_bnd (b : Int) (h : 1 ≤ b ∧ b ≤ 5) : rbu (bnd b) 6 = b := by
  unfold rbu
  rw [bdW_iff.2 ⟨h, rfl⟩]
  simp
  omega
/-- What a line may be. -/
def candU (a : W) : U := ⟨(unV a).1, [], 0⟩
def candU3 (a b c : W) : U := ⟨(unV a).1, (unV b).1, rnum c⟩
def candS (a b c d e : W) : Sy := ⟨(unV a).1, rbu b 6, rnum c, rnum d, rnum e⟩
def candT (a b c : W) : Sl := ⟨(unV a).1, rnum b, rnum c⟩
def cU : List W → Option Ln
  | [a] => some (.u (candU a))
  | [a, b, c] => if (unV b).1 = [] then none else some (.u (candU3 a b c))
  | _ => none
def cS : List W → Option Ln
  | [a, b, c, d, e] => some (.s (candS a b c d e))
  | _ => none
def cT : List W → Option Ln
  | [a, b, c] => some (.t (candT a b c))
  | _ => none
def cand : List W → Option Ln
  | [] => none
  | w :: r => if w = wUnit then cU r else if w = wSymbol then cS r else if w = wSlot then cT r else if w = wEnd then (if r = [] then some .e else none) else none
def oneP (l : W) : Option Ln := match cand (sp 32 l) with
  | none => none
  | some .e => some .e
  | some k => if k.ok = true ∧ lnW k.ws ++ lnW [wEnd] = l ++ 10 :: lnW [wEnd] then some k else none
theorem unV_esc (w : W) : unV (esc w) = (w, true) := by rw [unV, un_esc]
theorem nd_pow : ∀ (k n : Nat), n < 10 ^ (k + 1) → nd 10 n ≤ k + 1
  | 0, n, h => by rw [nd_lt (by simpa using h)]; omega
  | k + 1, n, h => by
    by_cases hn : n < 10
    · rw [nd_lt hn]; omega
    · rw [nd_ge (by omega) (by omega)]
      have := nd_pow k (n / 10) (by rw [Nat.div_lt_iff_lt_mul (by omega)]; rwa [Nat.pow_succ] at h)
      omega
theorem rnum_nt {z : Int} (h : inB z = true) : rnum (nt z) = z := by
  simp [inB] at h
  have e : nt z = tx 10 z.toNat := by rw [nt, if_neg (by omega)]
  have hv := vl_tx 10 z.toNat (by omega)
  have hd : (nt z).all (isd 10) = true := by rw [e]; exact List.all_eq_true.2 (tx_isd 10 _ (by omega))
  have hl0 : (nt z).length ≠ 0 := by rw [e, tx_len]; have := nd_pos 10 z.toNat; omega
  have hl : (nt z).length ≤ 16 := by
    rw [e, tx_len]
    exact nd_pow 15 _ (by omega)
  rw [rnum, if_neg (by rintro (h | h | h); exact hl0 h; omega; exact h hd), e, hv]
  omega
theorem cand_ws {k : Ln} (h : k.ok = true) : cand k.ws = some k := by
  cases k with
  | e => rfl
  | u x =>
    simp [Ln.ok, U.ok] at h
    obtain ⟨⟨h1, h2⟩, h3⟩ := h
    obtain ⟨f, m, i⟩ := x
    simp only at h1 h2 h3
    by_cases hm : m = []
    · subst hm
      simp at h3
      simp [Ln.ws, U.ws, cand, cU, candU, unV_esc, h3]
    · simp [Ln.ws, U.ws, cand, cU, candU3, unV_esc, hm, rnum_nt h2]
  | s x =>
    simp [Ln.ok, Sy.ok] at h
    obtain ⟨⟨⟨⟨h1, h2⟩, h3⟩, h4⟩, h5⟩ := h
    obtain ⟨n, b, z, a, u⟩ := x
    simp only at h1 h2 h3 h4 h5
    have hu : rnum (nt u) = u := by
      rcases h5 with h5 | h5
      · exact rnum_nt h5
      · subst h5; decide
    simp [Ln.ws, Sy.ws, cand, cS, candS, unV_esc, rnum_nt h3, rnum_nt h4, hu, rbu_bnd b h2, wSymbol, wUnit]
  | t x =>
    simp [Ln.ok, Sl.ok] at h
    obtain ⟨⟨h1, h2⟩, h3⟩ := h
    obtain ⟨n, o, z⟩ := x
    simp only at h1 h2 h3
    simp [Ln.ws, Sl.ws, cand, cT, candT, unV_esc, rnum_nt h2, rnum_nt h3, wSlot, wSymbol, wUnit]
theorem cU_e (r : List W) : cU r ≠ some .e := by
  unfold cU
  split
  · simp
  · split <;> simp
  · simp
theorem cS_e (r : List W) : cS r ≠ some .e := by
  unfold cS
  split <;> simp
theorem cT_e (r : List W) : cT r ≠ some .e := by
  unfold cT
  split <;> simp
theorem cU_no {r : List W} (h1 : r.length ≠ 1) (h3 : r.length ≠ 3) : cU r = none := by
  unfold cU
  split
  · exact absurd rfl h1
  · exact absurd rfl h3
  · rfl
theorem cS_no {r : List W} (h1 : r.length ≠ 5) : cS r = none := by
  unfold cS
  split
  · exact absurd rfl h1
  · rfl
theorem cT_no {r : List W} (h1 : r.length ≠ 3) : cT r = none := by
  unfold cT
  split
  · exact absurd rfl h1
  · rfl
theorem cand_e {ws : List W} (h : cand ws = some .e) : ws = [wEnd] := by
  unfold cand at h
  split at h
  · cases h
  · rename_i w r
    split at h
    · exact absurd h (cU_e _)
    · split at h
      · exact absurd h (cS_e _)
      · split at h
        · exact absurd h (cT_e _)
        · split at h
          · split at h
            · subst_vars; rfl
            · cases h
          · cases h
theorem shape (ws : List W) (hne : ws ≠ []) : (∃ a, ws = [wUnit, a]) ∨ (∃ a b c, ws = [wUnit, a, b, c]) ∨ (∃ a b c d e, ws = [wSymbol, a, b, c, d, e]) ∨ (∃ a b c, ws = [wSlot, a, b, c]) ∨ ws = [wEnd] ∨
    (cand ws = none ∧ ∃ w r, ws = w :: r ∧ (w = wUnit → r.length ≠ 1 ∧ r.length ≠ 3) ∧ (w = wSymbol → r.length ≠ 5) ∧ (w = wSlot → r.length ≠ 3) ∧ (w = wEnd → r.length ≠ 0)) := by
  obtain ⟨w, r, rfl⟩ := List.exists_cons_of_ne_nil hne
  by_cases h1 : w = wUnit
  · by_cases k1 : r.length = 1
    · match r, k1 with
      | [a], _ => exact .inl ⟨a, by rw [h1]⟩
    · by_cases k3 : r.length = 3
      · match r, k3 with
        | [a, b, c], _ => exact .inr (.inl ⟨a, b, c, by rw [h1]⟩)
      · exact .inr (.inr (.inr (.inr (.inr ⟨by rw [cand, if_pos h1, cU_no k1 k3], w, _, rfl, fun _ => ⟨k1, k3⟩, by simp [h1, wUnit, wSymbol], by simp [h1, wUnit, wSlot], by simp [h1, wUnit, wEnd]⟩))))
  · by_cases h2 : w = wSymbol
    · by_cases hr : r.length = 5
      · match r, hr with
        | [a, b, c, d, e], _ => exact .inr (.inr (.inl ⟨a, b, c, d, e, by rw [h2]⟩))
      · exact .inr (.inr (.inr (.inr (.inr ⟨by rw [cand, if_neg h1, if_pos h2, cS_no hr], w, _, rfl, fun e => absurd e h1, fun _ => hr, by simp [h2, wSymbol, wSlot], by simp [h2, wSymbol, wEnd]⟩))))
    · by_cases h3 : w = wSlot
      · by_cases hr : r.length = 3
        · match r, hr with
          | [a, b, c], _ => exact .inr (.inr (.inr (.inl ⟨a, b, c, by rw [h3]⟩)))
        · exact .inr (.inr (.inr (.inr (.inr ⟨by rw [cand, if_neg h1, if_neg h2, if_pos h3, cT_no hr], w, _, rfl, fun e => absurd e h1, fun e => absurd e h2, fun _ => hr, by simp [h3, wSlot, wEnd]⟩))))
      · by_cases h4 : w = wEnd
        · by_cases hr : r = []
          · exact .inr (.inr (.inr (.inr (.inl (by rw [h4, hr])))))
          · exact .inr (.inr (.inr (.inr (.inr ⟨by rw [cand, if_neg h1, if_neg h2, if_neg h3, if_pos h4, if_neg hr], w, _, rfl, fun e => absurd e h1, fun e => absurd e h2, fun e => absurd e h3, fun _ => by simpa using hr⟩))))
        · exact .inr (.inr (.inr (.inr (.inr ⟨by rw [cand, if_neg h1, if_neg h2, if_neg h3, if_neg h4], w, _, rfl, fun e => absurd e h1, fun e => absurd e h2, fun e => absurd e h3, fun e => absurd e h4⟩))))
theorem oneP_eq (l : W) : oneP l = lineP l := by
  apply Option.ext
  intro k
  rw [lineP_iff]
  constructor
  · intro h
    unfold oneP at h
    split at h
    · cases h
    · rename_i hc
      cases h
      have := cand_e hc
      refine ⟨rfl, ?_⟩
      show l = jn 32 [wEnd]
      rw [← this, jn_sp]
    · rename_i k' hk hc
      split at h
      · rename_i hh
        cases h
        refine ⟨hh.1, ?_⟩
        have e := hh.2
        rw [lnW] at e
        simp only [List.append_assoc, List.singleton_append] at e
        exact (List.append_cancel_right e).symm
      · cases h
  · rintro ⟨h1, rfl⟩
    unfold oneP
    rw [sp_ws, cand_ws h1]
    cases k with
    | e => rfl
    | u x => simp only; rw [if_pos ⟨h1, by simp [lnW]⟩]
    | s x => simp only; rw [if_pos ⟨h1, by simp [lnW]⟩]
    | t x => simp only; rw [if_pos ⟨h1, by simp [lnW]⟩]
/-- What the reference answers for a line. -/
def oneV (l : W) : AV := match oneP l with
  | none => .tup [mpV Mp.e, intV (-1)]
  | some k => .tup [mpV (Mp.e.add k), intV k.ph]
theorem bel_mp' (n : Nat) (m : Mp) : Bel n (mpV m) := by
  refine .agg _ ?_
  intro a ha
  simp at ha
  rcases ha with rfl | rfl | rfl
  · exact .ps _ (by simp)
  · exact .ps _ (by simp)
  · exact .ps _ (by simp)
theorem bel_oneV (n : Nat) (l : W) : Bel n (oneV l) := by
  unfold oneV
  split
  · exact .tup _ (by intro a ha; simp at ha; rcases ha with rfl | rfl; exact bel_mp' _ _; exact .c _)
  · exact .tup _ (by intro a ha; simp at ha; rcases ha with rfl | rfl; exact bel_mp' _ _; exact .c _)
theorem e_ok {k : Ln} : (Mp.e.add k).ok = k.ok := by cases k <;> simp [Mp.e, Mp.add, Mp.ok, Ln.ok]
theorem e_pr {k : Ln} (hk : k ≠ .e) : (Mp.e.add k).pr = lnW k.ws ++ lnW [wEnd] := by
  cases k <;> first | exact absurd rfl hk | simp [Mp.e, Mp.add, Mp.pr, Mp.txt, prU, prS, prT, Ln.ws]
theorem oneV_yes {l : W} {k : Ln} (hc : cand (sp 32 l) = some k) (hk : k ≠ .e) (h1 : k.ok = true) (h2 : (Mp.e.add k).pr = l ++ [10, 101, 110, 100, 10]) : oneV l = .tup [mpV (Mp.e.add k), intV k.ph] := by
  have e : oneP l = some k := by
    unfold oneP
    rw [hc]
    rw [e_pr hk] at h2
    cases k <;> first | exact absurd rfl hk | (simp only; rw [if_pos ⟨h1, h2⟩])
  rw [oneV, e]
theorem oneV_no {l : W} {k : Ln} (hc : cand (sp 32 l) = some k) (hk : k ≠ .e) (h : k.ok = true → (Mp.e.add k).pr ≠ l ++ [10, 101, 110, 100, 10]) : oneV l = .tup [mpV Mp.e, intV (-1)] := by
  have e : oneP l = none := by
    unfold oneP
    rw [hc]
    rw [e_pr hk] at h
    cases k <;> first | exact absurd rfl hk | (simp only; rw [if_neg (fun hh => h hh.1 hh.2)])
  rw [oneV, e]
theorem oneV_none {l : W} (hc : cand (sp 32 l) = none) : oneV l = .tup [mpV Mp.e, intV (-1)] := by
  rw [oneV, oneP, hc]
theorem oneV_e {l : W} (hc : sp 32 l = [wEnd]) : oneV l = .tup [mpV Mp.e, intV 3] := by
  rw [oneV, oneP, hc]; rfl
theorem nt_len {z : Int} (h : inB z = true ∨ z = -1) : (nt z).length ≤ 16 := by
  rcases h with h | h
  · simp [inB] at h
    rw [nt, if_neg (by omega), tx_len]
    exact nd_pow 15 _ (by omega)
  · subst h; decide
theorem bnd_len (b : Int) : (bnd b).length ≤ 16 := by
  unfold bnd
  split
  · rename_i h
    have : b = 1 ∨ b = 2 ∨ b = 3 ∨ b = 4 ∨ b = 5 := by omega
    rcases this with rfl | rfl | rfl | rfl | rfl <;> decide
  · simp
theorem unV_len (w : W) : (unV w).1.length ≤ w.length := by
  unfold unV
  cases h : un w with
  | none => simp
  | some o => exact un_len h
theorem lnw_u {x : U} {n : Nat} (hok : x.ok = true) (h1 : x.f.length ≤ n) (h2 : x.m.length ≤ n) : (lnW x.ws).length ≤ 6 * n + 30 := by
  simp [U.ok] at hok
  have a1 := esc_len x.f
  have a2 := esc_len x.m
  have a3 := nt_len (z := x.i) (.inl hok.1.2)
  rw [U.ws]
  split <;> simp [lnW, jn, wUnit] <;> omega
theorem lnw_s {x : Sy} {n : Nat} (hok : x.ok = true) (h1 : x.n.length ≤ n) : (lnW x.ws).length ≤ 3 * n + 90 := by
  simp [Sy.ok] at hok
  have a1 := esc_len x.n
  have a2 := bnd_len x.b
  have a3 := nt_len (z := x.z) (.inl hok.1.1.2)
  have a4 := nt_len (z := x.a) (.inl hok.1.2)
  have a5 := nt_len (z := x.u) hok.2
  simp [lnW, jn, wSymbol, Sy.ws]
  omega
theorem lnw_t {x : Sl} {n : Nat} (hok : x.ok = true) (h1 : x.n.length ≤ n) : (lnW x.ws).length ≤ 3 * n + 50 := by
  simp [Sl.ok] at hok
  have a1 := esc_len x.n
  have a3 := nt_len (z := x.o) (.inl hok.1.2)
  have a4 := nt_len (z := x.z) (.inl hok.2)
  simp [lnW, jn, wSlot, Sl.ws]
  omega
end Go.Proofs.YtebjdgcnnonjoaaDoor
