/- The law EditMoves. No condition. -/
import Derived.Test.YtnnhjaihjfdhbaaDoorL4
set_option linter.unusedVariables false
set_option linter.unusedSimpArgs false
set_option linter.unnecessarySimpa false
namespace Go.Proofs.YtnnhjaihjfdhbaaDoor
open Go Go.AW
set_option maxRecDepth 100000
set_option maxHeartbeats 8000000

/-- What a move does. -/
theorem mov_ok {l : List M} {w : W} {p : Pl} (h : (movR l w p).2 = 0) : ∃ (i j : Nat) (x : M), findI l w = i ∧ i < l.length ∧ l[i]? = some x ∧ x.name = w ∧ placeI (l.eraseIdx i) p = ((j : Int), 0) ∧ j ≤ (l.eraseIdx i).length ∧ (movR l w p).1 = insL (l.eraseIdx i) j x ∧ 0 ≤ p.1 ∧ p.1 ≤ 2 := by
  unfold movR at h ⊢
  split
  · rename_i h1; simp [h1] at h
  · rename_i h1
    rw [if_neg h1] at h
    split
    · rename_i h2; simp [h2] at h
    · rename_i h2
      rw [if_neg h2] at h
      obtain ⟨i, hi⟩ := nat_of (z := findI l w) (by omega)
      obtain ⟨hlt, _, hn⟩ := findI_spec hi
      simp only [hi, Int.toNat_natCast] at h ⊢
      split
      · rename_i h3; simp [h3] at h
      · rename_i h3
        have hle := placeI_le (l.eraseIdx i) p
        obtain ⟨j, hj⟩ := nat_of hle.1
        have h3' : (placeI (l.eraseIdx i) p).2 = 0 := by omega
        refine ⟨i, j, l[i], rfl, hlt, by simp [hlt], by simpa [hlt] using hn, by rw [← hj, ← h3'], by omega, by simp [hj, hlt], by omega, by omega⟩
theorem mov_err {l : List M} {w : W} {p : Pl} (h : (movR l w p).2 ≠ 0) : (movR l w p).1 = l := by
  unfold movR at h ⊢
  split
  · rfl
  · rename_i h1
    rw [if_neg h1] at h
    split
    · rfl
    · rename_i h2
      rw [if_neg h2] at h
      dsimp only at h ⊢
      split
      · rfl
      · rename_i h3; rw [if_neg h3] at h; simp at h
def Dist (l : List M) (n : Nat) : Prop := ∀ (a b : Nat) (x y : M), a < b → b < n → l[a]? = some x → l[b]? = some y → x.name ≠ y.name
def DistI (l : List M) (i n : Nat) : Prop := ∀ (a : Nat) (x y : M), a < n → l[a]? = some x → l[i]? = some y → y.name ≠ x.name
theorem dist_erase {l : List M} (hd : Dist l l.length) {i : Nat} {x : M} (hx : l[i]? = some x) : ∀ y ∈ l.eraseIdx i, y.name ≠ x.name := by
  intro y hy
  obtain ⟨b, hne, hb⟩ := (List.mem_eraseIdx_iff_getElem?).1 hy
  have hbl := (List.getElem?_eq_some_iff.1 hb).1
  have hil := (List.getElem?_eq_some_iff.1 hx).1
  rcases Nat.lt_or_gt_of_ne hne with h | h
  · exact hd b i y x h hil hb hx
  · exact fun e => hd i b x y h hbl hx hb e.symm
theorem get_ins_lt {l : List M} {k b : Nat} {m : M} (h : k ≤ l.length) (hb : b < k) : (insL l k m)[b]? = l[b]? := by
  simp only [insL]
  rw [List.getElem?_append_left (by simp; omega), List.getElem?_take, if_pos hb]
theorem take_ins_le {l : List M} {k b : Nat} {m : M} (h : k ≤ l.length) (hb : b ≤ k) : (insL l k m).take b = l.take b := by
  simp only [insL]
  rw [List.take_append_of_le_length (by simp; omega), List.take_take, Nat.min_eq_left hb]
theorem findI_of {l : List M} {w : W} {i : Nat} {x : M} (hx : l[i]? = some x) (h : ∀ m ∈ l.take i, m.name ≠ w) (hn : x.name = w) : findI l w = i := by
  obtain ⟨h1, h2⟩ := List.getElem?_eq_some_iff.1 hx
  exact findI_at h1 h (by rw [h2]; exact hn)
theorem mov_facts {l : List M} (hd : Dist l l.length) {i j : Nat} {x : M} {p : Pl} (hx : l[i]? = some x) (hj : j ≤ (l.eraseIdx i).length) (hp : placeI (l.eraseIdx i) p = ((j : Int), 0)) (hk0 : 0 ≤ p.1) (hk2 : p.1 ≤ 2) :
    findI (insL (l.eraseIdx i) j x) x.name = j ∧ delR (insL (l.eraseIdx i) j x) x.name = (l.eraseIdx i, 0) ∧ movR (insL (l.eraseIdx i) j x) x.name p = (insL (l.eraseIdx i) j x, 0) ∧
    ((p.1 = 0 ∧ j = (l.eraseIdx i).length) ∨ (p.1 = 1 ∧ findI (insL (l.eraseIdx i) j x) p.2 = (j : Int) + 1) ∨ (p.1 = 2 ∧ findI (insL (l.eraseIdx i) j x) p.2 = (j : Int) - 1)) := by
  have hne := dist_erase hd hx
  generalize l.eraseIdx i = r at *
  have hn : ∀ y ∈ r.take j, y.name ≠ x.name := fun y hy => hne y (List.mem_of_mem_take hy)
  have h1 := find_ins (m := x) hj hn
  have h2 := del_ins hj hn
  refine ⟨h1, h2, ?_, ?_⟩
  · have hk : ¬ (p.1 < 0 ∨ 2 < p.1) := by omega
    have hl := len_ins r j x
    have hg := get_ins (m := x) hj
    simp [movR, hk, h1, erase_ins hj, hp]
    rw [hg]; rfl
  · unfold placeI at hp
    rw [if_neg (by omega)] at hp
    split at hp
    · rename_i h3
      left; refine ⟨h3, ?_⟩
      have := (Prod.mk.inj hp).1; omega
    · rename_i h3
      split at hp
      · simp at hp
      · rename_i h4
        obtain ⟨q, hq⟩ := nat_of (z := findI r p.2) (by omega)
        obtain ⟨q1, q2, q3⟩ := findI_spec hq
        obtain ⟨y, hy⟩ := get_ex q1
        have hyn : y.name = p.2 := by simpa [List.getD, hy] using q3
        have hym := List.mem_of_getElem? hy
        have hxp : x.name ≠ p.2 := fun e => hne y hym (by rw [hyn, e])
        split at hp
        · rename_i h5
          have := (Prod.mk.inj hp).1
          right; right
          refine ⟨h5, ?_⟩
          have hjq : j = q + 1 := by omega
          subst hjq
          rw [findI_of (i := q) (x := y) (by rw [get_ins_lt hj (by omega)]; exact hy) (by rw [take_ins_le hj (by omega)]; exact q2) hyn]
          omega
        · rename_i h5
          have := (Prod.mk.inj hp).1
          right; left
          refine ⟨by omega, ?_⟩
          have hjq : j = q := by omega
          subst hjq
          rw [findI_of (i := j + 1) (x := y) (by rw [get_ins_succ hj]; exact hy) (by
            rw [take_ins_succ hj]
            intro z hz
            simp at hz
            rcases hz with hz | rfl
            · exact q2 z hz
            · exact hxp) hyn]
          omega
theorem EditMoves_p (l : List M) (w : W) (p : Pl) : Pur E 4 [memsV l, str w, plV p] (boolV true) := by
  obtain ⟨k, v⟩ := p
  refine Pur.enter [] Tryd.func4 rfl Tryd.ntmps4 Tryd.results4 hmE (by kernel_rfl) (by simp) (by simp) fun σ hσ => ?_
  conv => arg 5; cbv
  simp
  first | refine Pur.call (awake_p) ?_ | refine Pur.d (awake_p) ?_
  simp
  first | refine Pur.call (Few_p l) ?_ | refine Pur.d (Few_p l) ?_
  simp
  refine ⟨fun _ => Pur.call awake_p (by simp), fun hf => ⟨fun _ => Pur.call awake_p (by simp), fun hn => ⟨fun _ => Pur.call awake_p (by simp), fun hv => ?_⟩⟩⟩
  have fe := fewB.few hf
  have hl := fe.l
  have h20 := fewB.len hf
  first | refine Pur.call (forward_p (k, v)) ?_ | refine Pur.d (forward_p (k, v)) ?_
  simp
  first | refine Pur.call (Move_p l w (k, v) fe) ?_ | refine Pur.d (Move_p l w (k, v) fe) ?_
  simp
  refine ⟨fun h => ?_, fun h => ?_⟩
  · rw [mov_err h]
    first | refine Pur.call (Same_refl l fe.1) ?_ | refine Pur.d (Same_refl l fe.1) ?_
    simp
  · obtain ⟨i, j, x, hi, hlt, hx, hxn, hp, hj, hr, hk0, hk2⟩ := mov_ok h
    rw [hr]
    have hlr : (l.eraseIdx i).length + 1 = l.length := by rw [List.length_eraseIdx, if_pos hlt]; omega
    have hla := len_ins (l.eraseIdx i) j x
    have hb2 : StoreBel (σ.alloc (.arr 27 0 [plV (k, v)])) := hσ.alloc_arr (by simp)
    refine loop_n hmE (by kernel_rfl) l.length (fun i => [(9, intV i)]) (fun i => i ≤ l.length ∧ Dist l i) (by simp) (by simpa using hb2) (by simp [Dist]) (by simp) (by simp) fun i1 ⟨hi1, hd1⟩ => ?_
    simp
    refine ⟨fun h1 => ?_, fun h1 => ?_⟩
    · refine loop_n hmE (by kernel_rfl) i1 (fun i => [(10, intV i)]) (fun i => i ≤ i1 ∧ DistI l i1 i) (by simp) (by simpa using hb2) (by simp [DistI]) (by simp) (by simp) fun k1 ⟨hk1, hd2⟩ => ?_
      simp
      refine ⟨fun h2 => ?_, fun h2 => ?_⟩
      · obtain ⟨a, ha⟩ := get_ex h1
        obtain ⟨b, hb⟩ := get_ex (show k1 < l.length by omega)
        refine ⟨a, ha, b, hb, fun he => by omega, fun hne => ⟨wrap_succ h2 (by omega), ⟨h2, fun a' x' y' hlt' hx' hy' => ?_⟩, by omega⟩⟩
        by_cases e : a' = k1
        · subst e
          rw [hb] at hx'; rw [ha] at hy'
          cases hx'; cases hy'
          exact hne
        · exact hd2 a' x' y' (by omega) hx' hy'
      · refine ⟨wrap_succ h1 (by omega), ⟨h1, fun a' b' x' y' h3 h4 hx' hy' => ?_⟩, by omega⟩
        by_cases e : b' = i1
        · subst e
          exact fun e => hd2 a' x' y' (by omega) hx' hy' e.symm
        · exact hd1 a' b' x' y' h3 (by omega) hx' hy'
    · have e : i1 = l.length := by omega
      subst e
      subst hxn
      obtain ⟨m1, m2, m3, m4⟩ := mov_facts hd1 hx hj hp hk0 hk2
      have fr' : fewer (l.eraseIdx i) := fe.erase i
      have xd : x.data.length ≤ 1000000000 := fe.1.2 x (List.mem_of_getElem? hx)
      have fi := fewer_ins (k := j) fr' (by omega) xd
      have c1 := Find_p (insL (l.eraseIdx i) j x) x.name fi.l
      rw [m1] at c1
      have c2 := Find_p (insL (l.eraseIdx i) j x) v fi.l
      have c3 := Delete_p (insL (l.eraseIdx i) j x) x.name fi
      rw [m2] at c3
      have c4 := Delete_p l x.name fe
      rw [show delR l x.name = (l.eraseIdx i, 0) by simp [delR, hi]] at c4
      have c5 := Move_p (insL (l.eraseIdx i) j x) x.name (k, v) fi
      rw [m3] at c5
      have c6 := Same_refl (l.eraseIdx i) fr'.1
      have c7 := Same_refl (insL (l.eraseIdx i) j x) fi.1
      generalize l.eraseIdx i = r at *
      first | refine Pur.call (c1) ?_ | refine Pur.d (c1) ?_
      simp
      first | refine Pur.call (c2) ?_ | refine Pur.d (c2) ?_
      simp
      first | refine Pur.call (c3) ?_ | refine Pur.d (c3) ?_
      simp
      first | refine Pur.call (c4) ?_ | refine Pur.d (c4) ?_
      simp
      first | refine Pur.call (forward_p (k, v)) ?_ | refine Pur.d (forward_p (k, v)) ?_
      simp
      rcases m4 with ⟨h6, h7⟩ | ⟨h6, h7⟩ | ⟨h6, h7⟩
      · obtain rfl : k = 0 := h6
        have e1 : IntKind.i64.wrap (((insL r j x).length : Int) - 1) = (j : Int) := wrapI (by omega) (by omega) (by omega)
        first | refine Pur.call (c5) ?_ | refine Pur.d (c5) ?_
        simp [e1]
        first | refine Pur.call (c6) ?_ | refine Pur.d (c6) ?_
        simp
        first | refine Pur.call (c7) ?_ | refine Pur.d (c7) ?_
        simp
      · obtain rfl : k = 1 := h6
        have h7' : findI (insL r j x) v = (j : Int) + 1 := h7
        have e1 : IntKind.i64.wrap (findI (insL r j x) v - 1) = (j : Int) := wrapI (by omega) (by omega) (by omega)
        first | refine Pur.call (c5) ?_ | refine Pur.d (c5) ?_
        simp [e1]
        first | refine Pur.call (c6) ?_ | refine Pur.d (c6) ?_
        simp
        first | refine Pur.call (c7) ?_ | refine Pur.d (c7) ?_
        simp
      · obtain rfl : k = 2 := h6
        have h7' : findI (insL r j x) v = (j : Int) - 1 := h7
        have e1 : IntKind.i64.wrap (findI (insL r j x) v + 1) = (j : Int) := wrapI (by omega) (by omega) (by omega)
        first | refine Pur.call (c5) ?_ | refine Pur.d (c5) ?_
        simp [e1]
        first | refine Pur.call (c6) ?_ | refine Pur.d (c6) ?_
        simp
        first | refine Pur.call (c7) ?_ | refine Pur.d (c7) ?_
        simp
end Go.Proofs.YtnnhjaihjfdhbaaDoor
