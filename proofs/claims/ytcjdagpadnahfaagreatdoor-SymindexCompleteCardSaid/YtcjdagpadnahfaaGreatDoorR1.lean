/- Headers and parts of an archive read back, in plain words. No condition, no program. -/
import Derived.Test.YtcjdagpadnahfaaGreatDoorA10
set_option linter.unusedVariables false
set_option linter.unusedSimpArgs false
set_option linter.unnecessarySimpa false
namespace Go.Proofs.YtcjdagpadnahfaaGreatDoor
open Go Go.AW
set_option maxRecDepth 100000
set_option maxHeartbeats 8000000

/-- A text without the spaces at its end. -/
def rt (l : W) : W := (l.reverse.dropWhile (· == 32)).reverse
theorem rt_pad (l : W) (k : Nat) (h : l.getLast? ≠ some 32) : rt (l ++ List.replicate k 32) = l := by
  unfold rt
  rw [List.reverse_append, List.reverse_replicate]
  have : ∀ k : Nat, List.dropWhile (· == (32 : UInt8)) (List.replicate k 32 ++ l.reverse) = l.reverse := by
    intro k
    induction k with
    | zero =>
      cases hr : l.reverse with
      | nil => simp
      | cons c r =>
        have : l.getLast? = some c := by rw [← List.head?_reverse, hr]; rfl
        rw [this] at h
        simp at h
        simp [h]
    | succ k ih => simpa [List.replicate_succ] using ih
  rw [this, List.reverse_reverse]
theorem rt_len (l : W) : (rt l).length ≤ l.length := by
  unfold rt
  have := (List.dropWhile_sublist (l := l.reverse) (· == (32 : UInt8))).length_le
  simpa using this
def cutP (b : W) (i n : Nat) : W := (b.drop i).take n
theorem cut_two (a b : W) (i n : Nat) (h : a.length ≤ i) : cutP (a ++ b) i n = cutP b (i - a.length) n := by
  unfold cutP
  rw [List.drop_append, List.drop_eq_nil_of_le h, List.nil_append]
theorem cut_all (a b : W) (n : Nat) (h : n = a.length) : cutP (a ++ b) 0 n = a := by subst h; simp [cutP]
/-- A numeric field that is read. -/
def fldN (l : W) (b : Int) (bl : Bool) : Option Nat := if bl then (if l.all (· == 32) then some 0 else none) else if prsE l b = 0 then some (prsN l b) else none
theorem prs_fmt {n b w : Int} (h : fmtE n b w = 0) : prsE (fmtL n b w) b = 0 ∧ (prsN (fmtL n b w) b : Int) = n := by
  have hg : ¬ (¬ (b = 8 ∨ b = 10) ∨ w < 1 ∨ w > 18) := by
    intro hg; rw [fmtE, if_pos hg] at h; omega
  have hn : ¬ (n < 0 ∨ w < nd b.toNat n.toNat) := by
    intro hn; rw [fmtE, if_neg hg, if_pos hn] at h; omega
  obtain ⟨m, rfl⟩ : ∃ m : Nat, n = m := ⟨n.toNat, by omega⟩
  obtain ⟨c, rfl⟩ : ∃ c : Nat, b = c := ⟨b.toNat, by omega⟩
  obtain ⟨v, rfl⟩ : ∃ v : Nat, w = v := ⟨w.toNat, by omega⟩
  have hc : 2 ≤ c ∧ c ≤ 10 := by omega
  have hlen := fmtL_len0 h
  have hL : fmtL m c v = tx c m ++ List.replicate (v - nd c m) 32 := by rw [fmtL, if_pos h]; rfl
  have hld : ld c (fmtL m c v) = tx c m := by
    rw [hL]
    refine ld_append c _ _ (tx_isd c m hc) fun x hx => ?_
    have := List.mem_of_getElem? hx
    rw [List.mem_replicate] at this
    rw [this.2]; exact isd_space c hc.2
  have hvl : vl c (ld c (fmtL m c v)) = m := by rw [hld, vl_tx c m hc]
  have hlv : (fmtL m c v).length = v := by simpa using hlen
  have hok : okf c (fmtL m c v) := by
    refine (okf_iff c _ (by omega) (by omega)).2 ⟨?_, ?_, ?_⟩
    · rw [hld]; intro e
      have ht := tx_len c m
      rw [e] at ht
      have := nd_pos c m
      simp at ht; omega
    · rw [hvl, hlv]; exact h
    · rw [hvl, hlv]
  have hE : prsE (fmtL m c v) c = 0 := by
    rw [prsE, if_neg (by omega), if_pos (by simpa using hok)]
  refine ⟨hE, ?_⟩
  rw [prsN, if_pos hE]
  simp [hvl]
theorem fld_back {n b w : Int} {bl : Bool} (h : fldOk n b w bl = true) : fldN (fldL n b w bl) b bl = some n.toNat ∧ 0 ≤ n := by
  cases bl with
  | true =>
    simp [fldOk] at h
    subst h
    simp [fldN, fldL]
  | false =>
    simp [fldOk] at h
    obtain ⟨h1, h2⟩ := prs_fmt h
    simp [fldN, fldL, h1]
    omega
def dName (b : W) : W := rt (b.take 16)
def H.tabN (n : W) : Bool := n == [47, 47]
def dFld (b : W) : List (Option Nat) := [fldN (cutP b 16 12) 10 (dName b == [47, 47]), fldN (cutP b 28 6) 10 (dName b == [47, 47]), fldN (cutP b 34 6) 10 (dName b == [47, 47]), fldN (cutP b 40 8) 8 (dName b == [47, 47]), fldN (cutP b 48 10) 10 false]
/-- The error of reading a header. -/
def decE (b : W) : Int := if b.length < 60 then 2 else if cutP b 58 2 ≠ [96, 10] then 4 else if fitsN (dName b) = false then 6 else if none ∈ dFld b then 3 else 0
def zeroH : H := ⟨[], 0, 0, 0, 0, 0⟩
def fldI (b : W) (i : Nat) : Int := (((dFld b).getD i none).getD 0 : Nat)
/-- The header that is read. -/
def decH (b : W) : H := if decE b = 0 then ⟨dName b, fldI b 0, fldI b 1, fldI b 2, fldI b 3, fldI b 4⟩ else zeroH
theorem dec_enc (h : H) (rest : W) (h0 : encE h = 0) : decE (encL h ++ rest) = 0 ∧ decH (encL h ++ rest) = h := by
  have hf : fitsN h.name = true := by
    cases hf : fitsN h.name with
    | true => rfl
    | false => simp [encE, hf] at h0
  have hok : h.ok = true := by
    cases hok : h.ok with
    | true => rfl
    | false => simp [encE, hf, hok] at h0
  have hlen := fits_len hf
  simp [H.ok] at hok
  obtain ⟨⟨⟨⟨k1, k2⟩, k3⟩, k4⟩, k5⟩ := hok
  have l1 := fldL_len0 k1
  have l2 := fldL_len0 k2
  have l3 := fldL_len0 k3
  have l4 := fldL_len0 k4
  have l5 := fldL_len0 k5
  simp at l1 l2 l3 l4 l5
  obtain ⟨b1, p1⟩ := fld_back k1
  obtain ⟨b2, p2⟩ := fld_back k2
  obtain ⟨b3, p3⟩ := fld_back k3
  obtain ⟨b4, p4⟩ := fld_back k4
  obtain ⟨b5, p5⟩ := fld_back k5
  have hh : h.head.length = 16 := by simp [H.head]; omega
  have e0 : encL h ++ rest = h.head ++ (fldL h.t 10 12 h.tab ++ (fldL h.u 10 6 h.tab ++ (fldL h.g 10 6 h.tab ++ (fldL h.m 8 8 h.tab ++ (fldL h.s 10 10 false ++ ([96, 10] ++ rest)))))) := by
    rw [encL, if_pos h0, H.all]; simp
  have hl : h.name.getLast? ≠ some 32 := by
    intro e; simp [fitsN, e] at hf
  have hn : dName (encL h ++ rest) = h.name := by
    rw [e0, dName, List.take_append_of_le_length (by omega), List.take_of_length_le (by omega), H.head, rt_pad _ _ hl]
  have c1 : cutP (encL h ++ rest) 16 12 = fldL h.t 10 12 h.tab := by rw [e0, cut_two _ _ _ _ (by omega), hh, cut_all _ _ _ (by omega)]
  have c2 : cutP (encL h ++ rest) 28 6 = fldL h.u 10 6 h.tab := by
    rw [e0, cut_two _ _ _ _ (by omega), hh, cut_two _ _ _ _ (by omega), l1, cut_all _ _ _ (by omega)]
  have c3 : cutP (encL h ++ rest) 34 6 = fldL h.g 10 6 h.tab := by
    rw [e0, cut_two _ _ _ _ (by omega), hh, cut_two _ _ _ _ (by omega), l1, cut_two _ _ _ _ (by omega), l2, cut_all _ _ _ (by omega)]
  have c4 : cutP (encL h ++ rest) 40 8 = fldL h.m 8 8 h.tab := by
    rw [e0, cut_two _ _ _ _ (by omega), hh, cut_two _ _ _ _ (by omega), l1, cut_two _ _ _ _ (by omega), l2, cut_two _ _ _ _ (by omega), l3, cut_all _ _ _ (by omega)]
  have c5 : cutP (encL h ++ rest) 48 10 = fldL h.s 10 10 false := by
    rw [e0, cut_two _ _ _ _ (by omega), hh, cut_two _ _ _ _ (by omega), l1, cut_two _ _ _ _ (by omega), l2, cut_two _ _ _ _ (by omega), l3, cut_two _ _ _ _ (by omega), l4, cut_all _ _ _ (by omega)]
  have c6 : cutP (encL h ++ rest) 58 2 = [96, 10] := by
    rw [e0, cut_two _ _ _ _ (by omega), hh, cut_two _ _ _ _ (by omega), l1, cut_two _ _ _ _ (by omega), l2, cut_two _ _ _ _ (by omega), l3, cut_two _ _ _ _ (by omega), l4, cut_two _ _ _ _ (by omega), l5, cut_all _ _ _ (by simp)]
  have hlen2 : 60 ≤ (encL h ++ rest).length := by rw [List.length_append, encL_len0 h0]; omega
  have ht : (h.name == [47, 47]) = h.tab := rfl
  have hd : dFld (encL h ++ rest) = [some h.t.toNat, some h.u.toNat, some h.g.toNat, some h.m.toNat, some h.s.toNat] := by
    rw [dFld, hn, c1, c2, c3, c4, c5, ht, b1, b2, b3, b4, b5]
  have hE : decE (encL h ++ rest) = 0 := by
    rw [decE, if_neg (by omega), c6, hn, hf, hd]
    simp
  refine ⟨hE, ?_⟩
  rw [decH, if_pos hE, hn]
  have q1 := Int.toNat_of_nonneg p1
  have q2 := Int.toNat_of_nonneg p2
  have q3 := Int.toNat_of_nonneg p3
  have q4 := Int.toNat_of_nonneg p4
  have q5 := Int.toNat_of_nonneg p5
  have i0 : fldI (encL h ++ rest) 0 = h.t := by rw [fldI, hd]; exact q1
  have i1 : fldI (encL h ++ rest) 1 = h.u := by rw [fldI, hd]; exact q2
  have i2 : fldI (encL h ++ rest) 2 = h.g := by rw [fldI, hd]; exact q3
  have i3 : fldI (encL h ++ rest) 3 = h.m := by rw [fldI, hd]; exact q4
  have i4 : fldI (encL h ++ rest) 4 = h.s := by rw [fldI, hd]; exact q5
  rw [i0, i1, i2, i3, i4]
/-- What is wrong with the part at the beginning. -/
def szN (b : W) : Nat := (decH b).s.toNat
def nxtE (b : W) : Int := if decE b ≠ 0 then decE b else if b.length < 60 + szN b + szN b % 2 then 2 else if szN b % 2 = 1 ∧ b[60 + szN b]? ≠ some 10 then 5 else 0
def nxtN (b : W) : Nat := if nxtE b = 0 then 60 + szN b + szN b % 2 else 0
def nxtH (b : W) : H := if nxtE b = 0 then decH b else zeroH
def nxtD (b : W) : W := if nxtE b = 0 then cutP b 60 (szN b) else []
/-- A part that was written is read back. -/
theorem nxt_part (h : H) (d rest : W) (h0 : encE (h.sized d) = 0) : nxtE (partL h d ++ rest) = 0 ∧ nxtN (partL h d ++ rest) = (partL h d).length ∧ nxtH (partL h d ++ rest) = h.sized d ∧ nxtD (partL h d ++ rest) = d := by
  have e0 : partL h d ++ rest = encL (h.sized d) ++ (d ++ (padL d ++ rest)) := by simp [partL]
  have hl := encL_len0 h0
  obtain ⟨h1, h2⟩ := dec_enc (h.sized d) (d ++ (padL d ++ rest)) h0
  have hs : szN (partL h d ++ rest) = d.length := by rw [szN, e0, h2]; simp [H.sized]
  have hp := partL_len0 h0
  have hpl : (padL d).length = d.length % 2 := by
    unfold padL
    have := Nat.mod_two_eq_zero_or_one d.length
    split <;> simp <;> omega
  have hE : nxtE (partL h d ++ rest) = 0 := by
    rw [nxtE, hs, e0, h1, if_neg (by simp), if_neg (by simp [hl, hpl]; omega), if_neg]
    rintro ⟨g1, g2⟩
    apply g2
    rw [List.getElem?_append_right (by omega), hl, List.getElem?_append_right (by omega)]
    have : padL d = [10] := by rw [padL, if_pos g1]
    simp [this]
  refine ⟨hE, ?_, ?_, ?_⟩
  · rw [nxtN, if_pos hE, hs, hp, psz]
  · rw [nxtH, if_pos hE, e0, h2]
  · rw [nxtD, if_pos hE, hs, e0, cut_two _ _ _ _ (by omega), hl, cut_all _ _ _ (by rfl)]
end Go.Proofs.YtcjdagpadnahfaaGreatDoor
