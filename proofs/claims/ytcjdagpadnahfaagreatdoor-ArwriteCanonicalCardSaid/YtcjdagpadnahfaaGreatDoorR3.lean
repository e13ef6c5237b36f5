/- What was read from any archive can be written. No condition, no program. -/
import Derived.Test.YtcjdagpadnahfaaGreatDoorR2
set_option linter.unusedVariables false
set_option linter.unusedSimpArgs false
set_option linter.unnecessarySimpa false
namespace Go.Proofs.YtcjdagpadnahfaaGreatDoor
open Go Go.AW
set_option maxRecDepth 100000
set_option maxHeartbeats 8000000

theorem prs_ok {l : W} {b : Nat} (hb : b = 8 ∨ b = 10) (h : prsE l b = 0) : fmtE (prsN l b : Nat) b l.length = 0 ∧ (prsN l b) < 10 ^ 18 := by
  have hg : ¬ (¬ ((b : Int) = 8 ∨ (b : Int) = 10) ∨ l.length < 1 ∨ 18 < l.length) := by
    intro hg; rw [prsE, if_pos hg] at h; omega
  have hok : okf b l := by
    rw [prsE, if_neg hg] at h
    split at h
    · rename_i h1; simpa using h1
    · omega
  have hN : prsN l b = vl b (ld b l) := by rw [prsN, if_pos h]; simp
  obtain ⟨h1, h2, h3⟩ := (okf_iff b l hb (by omega)).1 hok
  refine ⟨by rw [hN]; exact h2, ?_⟩
  rw [hN]
  have hv := vl_lt b (by omega) (ld b l) (ld_isd b l)
  have hsp := congrArg List.length (ld_split b l)
  simp at hsp
  have h5 : b ^ (ld b l).length ≤ 10 ^ (ld b l).length := Nat.pow_le_pow_left (by omega) _
  have h6 : 10 ^ (ld b l).length ≤ 10 ^ 18 := Nat.pow_le_pow_right (by omega) (by omega)
  omega
theorem fld_ok {l : W} {b v : Nat} {w : Int} (hb : b = 8 ∨ b = 10) (hl : (l.length : Int) = w) (h : fldN l b false = some v) : fldOk v b w false = true ∧ v < 10 ^ 18 := by
  simp only [fldN] at h
  simp at h
  obtain ⟨h1, rfl⟩ := h
  obtain ⟨h2, h3⟩ := prs_ok hb h1
  refine ⟨?_, h3⟩
  simp [fldOk, ← hl, h2]
theorem cut_len {b : W} {i n : Nat} (h : i + n ≤ b.length) : (cutP b i n).length = n := by simp [cutP]; omega
/-- The numbers of a member fit. -/
def numM (m : M) : Prop := fldOk m.t 10 12 false = true ∧ fldOk m.u 10 6 false = true ∧ fldOk m.g 10 6 false = true ∧ fldOk m.m 8 8 false = true ∧ m.t < 10 ^ 18 ∧ m.u < 10 ^ 18 ∧ m.g < 10 ^ 18 ∧ m.m < 10 ^ 18
theorem dec_num {b : W} (h : decE b = 0) (ht : (decH b).name ≠ [47, 47]) (n : W) (d : W) : numM ⟨n, (decH b).t, (decH b).u, (decH b).g, (decH b).m, d⟩ := by
  have hb : 60 ≤ b.length := by
    rw [decE] at h
    split at h
    · omega
    · omega
  have hnone : none ∉ dFld b := by
    intro hn
    rw [decE, if_pos hn] at h
    split at h
    · omega
    · split at h
      · omega
      · split at h <;> omega
  have hH : decH b = ⟨dName b, fldI b 0, fldI b 1, fldI b 2, fldI b 3, fldI b 4⟩ := by rw [decH, if_pos h]
  rw [hH] at ht
  have hbl : (dName b == [47, 47]) = false := by simpa using ht
  have e : dFld b = [fldN (cutP b 16 12) 10 false, fldN (cutP b 28 6) 10 false, fldN (cutP b 34 6) 10 false, fldN (cutP b 40 8) 8 false, fldN (cutP b 48 10) 10 false] := by rw [dFld, hbl]
  rw [e] at hnone
  have hs : ∀ {o : Option Nat}, none ≠ o → ∃ v, o = some v := fun {o} ho => by cases o <;> simp_all
  simp only [List.mem_cons, not_or] at hnone
  obtain ⟨n1, n2, n3, n4, n5, _⟩ := hnone
  obtain ⟨v1, k1⟩ := hs n1
  obtain ⟨v2, k2⟩ := hs n2
  obtain ⟨v3, k3⟩ := hs n3
  obtain ⟨v4, k4⟩ := hs n4
  have i0 : fldI b 0 = v1 := by simp [fldI, e, k1]
  have i1 : fldI b 1 = v2 := by simp [fldI, e, k2]
  have i2 : fldI b 2 = v3 := by simp [fldI, e, k3]
  have i3 : fldI b 3 = v4 := by simp [fldI, e, k4]
  obtain ⟨a1, b1⟩ := fld_ok (b := 10) (w := 12) (by omega) (by rw [cut_len (by omega)]; rfl) k1
  obtain ⟨a2, b2⟩ := fld_ok (b := 10) (w := 6) (by omega) (by rw [cut_len (by omega)]; rfl) k2
  obtain ⟨a3, b3⟩ := fld_ok (b := 10) (w := 6) (by omega) (by rw [cut_len (by omega)]; rfl) k3
  obtain ⟨a4, b4⟩ := fld_ok (b := 8) (w := 8) (by omega) (by rw [cut_len (by omega)]; rfl) k4
  rw [hH]
  simp only [i0, i1, i2, i3]
  exact ⟨a1, a2, a3, a4, by show (v1 : Int) < _; omega, by show (v2 : Int) < _; omega, by show (v3 : Int) < _; omega, by show (v4 : Int) < _; omega⟩
theorem lookP_mem {l : List (Nat × W)} {n : Nat} {x : W} (h : lookP l n = some x) : ∃ p ∈ l, p.2 = x := by
  obtain ⟨p, hp, rfl⟩ := Option.map_eq_some_iff.1 h
  exact ⟨p, List.mem_of_find?_eq_some hp, rfl⟩
theorem rsl_valid {f t n : W} (ht : entE t = 0) (h : rsl f t = some n) : validN n = true := by
  rw [rsl] at h
  split at h
  · rename_i hs
    cases h
    have := hs.2
    simp [shortN] at this
    exact this.1
  · split at h
    · obtain ⟨p, hp, rfl⟩ := lookP_mem h
      unfold entE at ht
      split at ht
      · rename_i hall
        exact List.all_eq_true.1 hall p hp
      · omega
    · cases h
def PS.inv (x : PS) : Prop := (x.hm = false → x.mp = []) ∧ entE x.tab = 0 ∧ ∀ m ∈ x.mem, validN m.name = true ∧ numM m
theorem inv0 : PS0.inv := ⟨fun _ => rfl, rfl, by simp [PS0]⟩
theorem inv_add {a : Int} {b : W} {x : PS} (hx : x.inv) (h0 : nxtE b = 0) (he : addE (nxtH b) (nxtD b) x = 0) : (addX a (nxtH b) (nxtD b) x).inv := by
  have hd : decE b = 0 := by
    unfold nxtE at h0
    split at h0
    · rename_i h; exact absurd h0 h
    · rename_i h; simpa using h
  have hH : nxtH b = decH b := by rw [nxtH, if_pos h0]
  unfold addX
  unfold addE at he
  split
  · rename_i h1
    exact ⟨fun h => (by cases h), hx.2⟩
  · rename_i h1
    rw [if_neg h1] at he
    split
    · rename_i h2
      rw [if_pos h2] at he
      refine ⟨hx.1, ?_, hx.2.2⟩
      split at he
      · omega
      · rename_i h3
        simp at h3
        exact h3.1
    · rename_i h2
      rw [if_neg h2] at he
      refine ⟨hx.1, hx.2.1, fun m hm => ?_⟩
      rcases List.mem_append.1 hm with hm | hm
      · exact hx.2.2 m hm
      · simp only [List.mem_singleton] at hm
        subst hm
        rw [hH] at h2 he ⊢
        refine ⟨?_, dec_num hd h2 _ _⟩
        unfold rslE at he
        split at he
        · rename_i hs
          obtain ⟨n, hn⟩ := Option.isSome_iff_exists.1 hs
          show validN (rslN _ _) = true
          rw [rslN, hn]
          exact rsl_valid hx.2.1 hn
        · omega
theorem go_inv : ∀ (k : Nat) (b : W) (a : Nat) (x : PS), x.inv → (go k b a x).1.inv
  | 0, b, a, x, hx => hx
  | k + 1, b, a, x, hx => by
    rw [go]
    split
    · exact hx
    · split
      · exact inv0
      · split
        · exact inv0
        · rename_i h1 h2
          exact go_inv k _ _ _ (inv_add hx (by simpa using h1) (by simpa using h2))
theorem prs_inv (b : W) : (prsG b).1.inv := by
  unfold prsG
  split
  · exact inv0
  · split
    · exact inv0
    · exact go_inv _ _ _ _ inv0
/-- The members that were read, if they are few: they can be written. -/
theorem inv_fits {x : PS} (hx : x.inv) (hf : few20 x.mem = true) : fewM x.mem ∧ (fitsI x.mem).2 = 0 := by
  simp only [few20, Bool.and_eq_true, List.all_eq_true, decide_eq_true_eq] at hf
  obtain ⟨h1, h2, h3⟩ := hf
  refine ⟨⟨by omega, fun m hm => ?_⟩, ?_⟩
  · obtain ⟨h4, h5⟩ := hx.2.2 m hm
    obtain ⟨_, _, _, _, b1, b2, b3, b4⟩ := h5
    have := h1 m hm
    exact ⟨by omega, by omega, by omega, by omega, by omega, by omega⟩
  · rw [fits_none fun m hm => ?_]
    obtain ⟨h4, h5⟩ := hx.2.2 m hm
    obtain ⟨a1, a2, a3, a4, _⟩ := h5
    have := h1 m hm
    rw [badE, if_neg (by simp [h4]), if_pos]
    simp only [fitM, a1, a2, a3, a4, Bool.true_and]
    exact size_ok _ (by omega)
end Go.Proofs.YtcjdagpadnahfaaGreatDoor
