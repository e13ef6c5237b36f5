/- Tables of names and name fields, read by the reference. No condition. -/
import Derived.Test.YtcjdagpadnahfaaGreatDoorP9
set_option linter.unusedVariables false
set_option linter.unusedSimpArgs false
set_option linter.unnecessarySimpa false
namespace Go.Proofs.YtcjdagpadnahfaaGreatDoor
open Go Go.AW
set_option maxRecDepth 100000
set_option maxHeartbeats 8000000

theorem eol_is : ∀ {r : W} {n : Nat}, r[n]? = some 47 → r[n + 1]? = some 10 → (∀ k, k ≤ n → r[k]? ≠ some 10) → eol r = some n
  | [], n, h, _, _ => by simp at h
  | c :: r, 0, h1, h2, h3 => by
    simp at h1 h2
    subst h1
    rw [eol, if_pos ⟨rfl, by rw [List.head?_eq_getElem?]; exact h2⟩]
  | c :: r, n + 1, h1, h2, h3 => by
    have ih := eol_is (r := r) (n := n) (by simpa using h1) (by simpa using h2) fun k hk => by simpa using h3 (k + 1) (by omega)
    rw [eol, if_neg, ih]; rfl
    rintro ⟨_, hh⟩
    have := h3 1 (by omega)
    rw [List.head?_eq_getElem?] at hh
    simp at this
    exact this hh
theorem valid_ten {n : W} (h : (10 : UInt8) ∈ n) : validN n = false := by
  rw [Bool.eq_false_iff]
  intro hv
  simp [validN, hasAny] at hv
  have := hv.2 10 h
  simp at this
theorem valid_slash {n : W} (h : (47 : UInt8) ∈ n) : validN n = false := by
  rw [Bool.eq_false_iff]
  intro hv
  exact valid_no hv 47 h rfl
/-- The line that begins here is no name: the table is none. -/
theorem bad_line {t : W} {a j : Nat} (hne : t.drop a ≠ []) (h : linG (t.drop a).length (t.drop a) a = (lins t).drop j) (hb : ∀ n, eol (t.drop a) = some n → validN ((t.drop a).take n) = false) : entE t = 7 ∧ entL t = [] := by
  cases he : eol (t.drop a) with
  | none =>
    rw [linG_none hne he] at h
    exact entE_bad (drop_cons h.symm).1 (valid_slash (by simp))
  | some n =>
    rw [linG_some hne he] at h
    exact entE_bad (drop_cons h.symm).1 (hb n he)
attribute [local simp] lnV
theorem rEntries_p (t : W) (ht : t.length ≤ 900000) : Pur E 58 [bytes t] (.tup [strs (entL t), intV (entE t)]) := by
  refine Pur.enter [3000004] Tryz.func58 rfl Tryz.ntmps58 Tryz.results58 hmE (by kernel_rfl) (by simp) (by simp) fun σ hσ => ?_
  conv => arg 5; cbv
  simp
  obtain ⟨l1, l2⟩ := lins_fine t
  refine loop_e hmE (by kernel_rfl) (0, 0, 0) (fun x : Nat × Nat × Nat => [(6, intV x.1), (5, intV x.2.2), (4, .lg σ.next (((lins t).take x.2.1).map lnV))]) (fun x => σ.alloc (.log 9 ((lins t).take x.2.1).length))
    (fun x => x.1 ≤ t.length ∧ x.2.2 ≤ x.1 ∧ x.2.1 ≤ (lins t).length ∧ (∀ k, x.2.2 ≤ k → k < x.1 → t[k]? ≠ some 10) ∧ linG (t.drop x.2.2).length (t.drop x.2.2) x.2.2 = (lins t).drop x.2.1 ∧ ∀ p ∈ (lins t).take x.2.1, validN p.2 = true) (fun x => t.length - x.1) ⟨by simp, by simp, by simp, by simp, by simp [lins], by simp⟩ (fun x hx => ⟨by simp, hσ.alloc_log _ _, by simp [lnV]⟩) (by simp) (by simp) ?_
  rintro ⟨i, j, a⟩ ⟨h1, h2, h3, h4, h5, h6⟩
  simp only at h1 h2 h3 h4 h5 h6
  have hrl : (t.drop a).length = t.length - a := by simp
  have hgr : ∀ k, (t.drop a)[k]? = t[a + k]? := fun k => by rw [List.getElem?_drop]
  simp
  refine ⟨fun hi => ?_, fun hi => ?_⟩
  · obtain ⟨c, hc⟩ := get_ex hi
    have hne : t.drop a ≠ [] := by intro e; rw [e] at hrl; simp at hrl; omega
    have bad : (∀ n, eol (t.drop a) = some n → validN ((t.drop a).take n) = false) → entL t = [] ∧ 7 = entE t := fun h => by
      obtain ⟨q1, q2⟩ := bad_line hne h5 h
      exact ⟨q2, q1.symm⟩
    have noeol : ∀ n, eol (t.drop a) = some n → i ≤ a + n + 1 := fun n hn => by
      obtain ⟨_, _, e3, _⟩ := eol_some hn
      rw [hgr] at e3
      refine Nat.le_of_not_lt fun hlt => h4 (a + (n + 1)) (by omega) (by omega) e3
    refine ⟨c, hc, fun hn10 => ?_, fun h10 => ?_⟩
    · refine ⟨i + 1, j, a, ⟨⟨hi, by omega, h3, fun k hk1 hk2 => ?_, by rw [← h5]; simp, fun x y hxy => h6 (x, y) hxy⟩, by omega⟩, Below.refl _, rfl, rfl, wrap_succ hi (by omega)⟩
      rcases Nat.lt_succ_iff_lt_or_eq.1 hk2 with hk | rfl
      · exact h4 k hk1 hk
      · rw [hc]; intro e; cases e; exact hn10 rfl
    · have hc10 : c = 10 := UInt8.toNat_inj.1 (by show _ = 10; omega)
      subst hc10
      refine ⟨fun hia => ?_, fun hia => ?_⟩
      · have hia : i = a := by omega
        subst hia
        exact bad fun n hn => by
          obtain ⟨e1, e2, _, _⟩ := eol_some hn
          have hn0 : n ≠ 0 := by rintro rfl; rw [hgr, Nat.add_zero, hc] at e2; cases e2
          exact valid_ten (List.mem_of_getElem? (i := 0) (by rw [List.getElem?_take, if_pos (by omega), hgr, Nat.add_zero, hc]))
      · have hia' : i ≠ a := fun e => hia (by rw [e])
        have hw : IntKind.i64.wrap ((i : Int) - 1) = ((i - 1 : Nat) : Int) := (wrap64_id (by omega) (by omega)).trans (by omega)
        rw [hw]
        obtain ⟨d, hd⟩ := get_ex (l := t) (i := i - 1) (by omega)
        refine ⟨by omega, d, by simpa using hd, fun h47 => ?_, fun h47 => ?_⟩
        · exact bad fun n hn => by
            obtain ⟨e1, e2, e3, _⟩ := eol_some hn
            have hle := noeol n hn
            have hne2 : a + n + 1 ≠ i := fun e => by
              rw [hgr, show a + n = i - 1 by omega, hd] at e2
              cases e2; exact h47 rfl
            have hne3 : a + n ≠ i := fun e => by
              rw [hgr, e, hc] at e2
              cases e2
            exact valid_ten (List.mem_of_getElem? (i := i - a) (by rw [List.getElem?_take, if_pos (by omega), hgr, show a + (i - a) = i by omega, hc]))
        · have hd47 : d = 47 := UInt8.toNat_inj.1 (by show _ = 47; omega)
          subst hd47
          have hE : eol (t.drop a) = some (i - 1 - a) := by
            refine eol_is (by rw [hgr, show a + (i - 1 - a) = i - 1 by omega, hd]) (by rw [hgr, show a + (i - 1 - a + 1) = i by omega, hc]) fun k hk => ?_
            rw [hgr]
            exact h4 (a + k) (by omega) (by omega)
          have hcut : List.drop a (List.take (i - 1) t) = (t.drop a).take (i - 1 - a) := by rw [List.drop_take]
          have hV := rValid_p ((t.drop a).take (i - 1 - a)) (by simp; omega)
          rw [Int.toNat_natCast, hcut]
          refine ⟨by omega, by omega, isByte2 t _ _, ?_⟩
          refine Pur.call hV ?_
          rw [linG_some hne hE] at h5
          obtain ⟨k1, k2⟩ := drop_cons h5.symm
          have hjl := (List.getElem?_eq_some_iff.1 k1).1
          cases hv : validN ((t.drop a).take (i - 1 - a)) with
          | false =>
            obtain ⟨q1, q2⟩ := entE_bad k1 hv
            simp [q1, q2]
          | true =>
            simp [hw, hcut]
            have e1 : min (j + 1) (lins t).length = min j (lins t).length + 1 := by omega
            refine ⟨by omega, by omega, isByte2 t _ _, by omega, by omega, i + 1, j + 1, i + 1, ⟨⟨hi, Nat.le_refl _, hjl, fun k hk1 hk2 => by omega, ?_, fun x y hxy => ?_⟩, by omega⟩, by rw [e1]; exact Below.refl _, ?_, wrap_succ hi (by omega), wrap_succ hi (by omega)⟩
            · rw [k2, List.drop_drop, show a + (i - 1 - a + 2) = i + 1 by omega, show a + (i - 1 - a) + 2 = i + 1 by omega]
              exact linG_fuel _ _ _ _ (by simp) (by simp)
            · rw [List.take_add_one, k1] at hxy
              simp at hxy
              rcases hxy with hxy | ⟨rfl, rfl⟩
              · exact h6 (x, y) hxy
              · exact hv
            · have := take_snoc (f := lnV) k1
              simp at this
              exact this
  · have hil : i = t.length := by omega
    subst hil
    refine ⟨fun hal => ?_, fun hal => ?_⟩
    · have hne : t.drop a ≠ [] := by intro e; rw [e] at hrl; simp at hrl; omega
      obtain ⟨q1, q2⟩ := bad_line hne h5 fun n hn => by
        obtain ⟨e1, _, e3, _⟩ := eol_some hn
        rw [hgr] at e3
        exact absurd e3 (h4 (a + (n + 1)) (by omega) (by omega))
      exact ⟨q2, q1.symm⟩
    · have hal : a = t.length := by omega
      subst hal
      have hd : t.drop t.length = [] := List.drop_length
      rw [hd] at h5
      have hjl : (lins t).length ≤ j := by
        have := congrArg List.length h5
        simp [linG] at this; omega
      have hj : j = (lins t).length := by omega
      subst hj
      rw [List.take_length] at h6
      obtain ⟨q1, q2⟩ := entE_ok h6
      simp [q1, q2]
theorem tabL_take (l : List W) (i : Nat) : (tabL (l.take i)).length ≤ (tabL l).length := by
  conv => rhs; rw [← List.take_append_drop i l]
  simp only [tabL, List.flatMap_append, List.length_append]
  omega
theorem Table2_p (l : List W) (hl : l.length ≤ 1000000) (hb : (tabL l).length ≤ 10000000) : Pur E 93 [strs l] (bytes (tabL l)) := by
  refine Pur.enter [3000003] Tryz.func93 rfl Tryz.ntmps93 Tryz.results93 hmE (by kernel_rfl) (by simp) (by simp) fun σ hσ => ?_
  conv => arg 5; cbv
  simp
  have hlen : ∀ i, (tabL (l.take i)).length ≤ 10000000 := fun i => Nat.le_trans (tabL_take l i) hb
  refine loop_x hmE (by kernel_rfl) (· + 1) 0 (fun i : Nat => [(4, intV i), (3, .lg σ.next ((tabL (l.take i)).map byteV))]) (fun i : Nat => σ.alloc (.log 5 (tabL (l.take i)).length)) (fun i : Nat => i ≤ l.length) (fun i => l.length - i) (by simp) (fun i hi => ⟨by simp, by simp [hσ], by have := bel_lg (Nat.lt_succ_self σ.next) (tabL (l.take i)); simpa using this⟩) (by simp [tabL]) (by simp [tabL]) fun i hi => ?_
  simp
  refine ⟨fun h => ?_, fun h => ?_⟩
  · obtain ⟨n, hn⟩ := get_ex h
    have h1 := hlen i
    have h2 := hlen (i + 1)
    have hs : tabL (l.take (i + 1)) = tabL (l.take i) ++ (n ++ [47, 10]) := by rw [List.take_add_one, hn, Option.toList_some, tabL_snoc]
    have hnl : n.length ≤ 10000000 := by rw [hs] at h2; simp at h2; omega
    have h3 := h2
    rw [hs] at h3 ⊢
    simp at h3
    simp
    refine ⟨n, hn, by omega, by omega, by omega, by omega, Below.refl _, ⟨rfl, wrap_succ h (by omega)⟩, by omega, by omega⟩
  · rw [List.take_of_length_le h]
/-- Where the lines of a table begin. -/
theorem lin_off : ∀ (k : Nat) (t : W) (a i : Nat) (p : Nat × W), (linG k t a)[i]? = some p → p.1 = a + (tabL (((linG k t a).take i).map Prod.snd)).length
  | 0, t, a, i, p, h => by simp [linG] at h
  | k + 1, t, a, i, p, h => by
    rw [linG] at h ⊢
    by_cases ht : t = []
    · rw [if_pos ht] at h; simp at h
    · rw [if_neg ht] at h ⊢
      cases he : eol t with
      | none =>
        rw [he] at h
        cases i with
        | zero => simp at h; subst h; simp [tabL]
        | succ i => simp at h
      | some n =>
        rw [he] at h
        obtain ⟨e1, _⟩ := eol_some he
        cases i with
        | zero => simp at h; subst h; simp [tabL]
        | succ i =>
          have := lin_off k (t.drop (n + 2)) (a + n + 2) i p (by simpa using h)
          simp [tabL] at this ⊢
          omega
theorem lins_tot (t : W) (i : Nat) (hv : entE t = 0) : (tabL (((lins t).take i).map Prod.snd)).length ≤ t.length := by
  have key : ∀ (k : Nat) (t : W) (a : Nat), (∀ p ∈ linG k t a, validN p.2 = true) → (tabL ((linG k t a).map Prod.snd)).length ≤ t.length := by
    intro k
    induction k with
    | zero => intro t a _; simp [linG, tabL]
    | succ k ih =>
      intro t a h
      rw [linG] at h ⊢
      by_cases ht : t = []
      · rw [if_pos ht]; simp [tabL]
      · rw [if_neg ht] at h ⊢
        cases he : eol t with
        | none =>
          rw [he] at h
          have := h _ (List.mem_singleton.2 rfl)
          rw [valid_slash (by simp)] at this
          cases this
        | some n =>
          rw [he] at h
          obtain ⟨e1, _⟩ := eol_some he
          have := ih (t.drop (n + 2)) (a + n + 2) fun p hp => h p (by simp [hp])
          simp [tabL] at this ⊢
          omega
  have hall : ∀ p ∈ lins t, validN p.2 = true := by
    unfold entE at hv
    split at hv
    · rename_i h; exact List.all_eq_true.1 h
    · omega
  have := key t.length t 0 hall
  have h2 := tabL_take ((lins t).map Prod.snd) i
  rw [List.map_take]
  exact Nat.le_trans h2 this
/-- A field's number. -/
theorem prs_tx {d : W} (h : prsE d 10 = 0) (h32 : d.contains 32 = false) : d = tx 10 (prsN d 10) := by
  have hg : ¬ (¬ ((10 : Int) = 8 ∨ (10 : Int) = 10) ∨ d.length < 1 ∨ 18 < d.length) := by
    intro hg; rw [prsE, if_pos hg] at h; omega
  have hok : okf 10 d := by
    rw [prsE, if_neg hg] at h
    split at h
    · rename_i h1; exact h1
    · omega
  have hN : prsN d 10 = vl 10 (ld 10 d) := by rw [prsN, if_pos h]; rfl
  obtain ⟨h1, h2, h3⟩ := hok
  have hdrop : d.drop (ld 10 d).length = [] := by
    cases hd : d.drop (ld 10 d).length with
    | nil => rfl
    | cons y r =>
      have hy : y = 32 := h3 y (by rw [hd]; simp)
      have : (32 : UInt8) ∈ d := by
        rw [← hy]
        exact List.mem_of_mem_drop (i := (ld 10 d).length) (by rw [hd]; simp)
      rw [List.contains_eq_mem] at h32
      simp [this] at h32
  have hsp := ld_split 10 d
  rw [hdrop, List.append_nil] at hsp
  have hh := tx_vl 10 (by omega) (ld 10 d) (ld_isd 10 d) h1 (by rw [← hsp]; rw [← hsp] at h2; exact h2)
  rw [hN, hh]
  exact hsp
theorem rsl_hit {f t : W} {q : Nat × W} {i : Nat} (hns : ¬ (f.getLast? = some 47 ∧ shortN f.dropLast = true)) (hq : (lins t)[i]? = some q) (hf : f = 47 :: tx 10 q.1) (hb : q.1 ≤ 2000000) (hno : ∀ p ∈ (lins t).take i, f ≠ 47 :: tx 10 p.1) : rsl f t = some q.2 := by
  obtain ⟨h1, h2, h3⟩ := tx_prs q.1 hb
  have hsp : (tx 10 q.1).contains 32 = false := by
    rw [List.contains_eq_any_beq, List.any_eq_false]
    intro x hx
    have := tx_isd 10 _ (by omega) x hx
    intro e
    have : x = 32 := by simpa using (beq_iff_eq.1 e).symm
    subst this
    simp [isd] at *
  rw [rsl, if_neg hns, if_pos]
  · have ht : f.tail = tx 10 q.1 := by rw [hf]; rfl
    rw [ht, h2]
    exact look_none (fun p hp e => hno p hp (by rw [hf, e])) hq rfl
  · rw [hf]
    exact ⟨rfl, h3, hsp, h1⟩
theorem rsl_miss {f t : W} (hns : ¬ (f.getLast? = some 47 ∧ shortN f.dropLast = true)) (hno : ∀ p ∈ lins t, f ≠ 47 :: tx 10 p.1) : rsl f t = none := by
  rw [rsl, if_neg hns]
  split
  · rename_i h
    obtain ⟨h1, h2, h3, h4⟩ := h
    have hd := prs_tx h4 h3
    refine look_nil fun q hq e => hno q hq ?_
    rw [e, ← hd]
    cases f with
    | nil => simp at h1
    | cons c f => simp at h1; subst h1; rfl
  · rfl
theorem rResolve_p (f t : W) (hf : f.length ≤ 1000) (ht : t.length ≤ 900000) (h0 : entE t = 0) : Pur E 59 [str f, bytes t] (.tup [str (rslN f t), intV (rslE f t)]) := by
  obtain ⟨l1, l2⟩ := lins_fine t
  have hEn := rEntries_p t ht
  have hEL : entL t = (lins t).map Prod.snd := by rw [entL, if_pos h0]
  have hTl : ∀ i, (tabL (((lins t).map Prod.snd).take i)).length ≤ t.length := fun i => by rw [← List.map_take]; exact lins_tot t i h0
  obtain ⟨N, hN⟩ : ∃ N, N = (lins t).map Prod.snd := ⟨_, rfl⟩
  have hNl : N.length = (lins t).length := by rw [hN]; simp
  rw [hEL, ← hN] at hEn
  rw [← hN] at hTl
  simp [h0] at hEn
  refine Pur.enter [] Tryz.func59 rfl Tryz.ntmps59 Tryz.results59 hmE (by kernel_rfl) (by simp) (by simp) fun σ hσ => ?_
  conv => arg 5; cbv
  simp
  refine ⟨fun he => ?_, fun he => ?_⟩
  · have hr : rsl f t = none := by subst he; simp [rsl]
    simp [rslN, rslE, hr]
  have hfl : 0 < f.length := List.length_pos_iff.2 he
  have hw : IntKind.i64.wrap ((f.length : Int) - 1) = ((f.length - 1 : Nat) : Int) := (wrap64_id (by omega) (by omega)).trans (by omega)
  obtain ⟨z, hz⟩ := get_ex (l := f) (i := f.length - 1) (by omega)
  have hlast : f.getLast? = some z := by rw [List.getLast?_eq_getElem?, hz]
  have hdl : f.take (f.length - 1) = f.dropLast := by rw [List.dropLast_eq_take]
  rw [hw]
  simp only [Int.toNat_natCast, hz, Option.getD_some, hdl]
  refine ⟨by omega, by omega, fun h47 => ⟨by omega, by omega, ?_⟩, fun h47 => ?_⟩
  · have hz47 : z = 47 := UInt8.toNat_inj.1 (by show _ = 47; omega)
    subst hz47
    have hS := rShort_p f.dropLast (by simp; omega)
    simp at hS
    refine Pur.call hS ?_
    cases hs : shortN f.dropLast with
    | true =>
      have hr : rsl f t = some f.dropLast := by rw [rsl, if_pos ⟨hlast, hs⟩]
      simp [hw, hdl, rslN, rslE, hr]
      try omega
    | false =>
      have hns : ¬ (f.getLast? = some 47 ∧ shortN f.dropLast = true) := by simp [hs]
      simp
      --S1
      refine Pur.call hEn ?_
      simp [h0]
      refine loop_n hmE (by kernel_rfl) N.length (fun i => [(8, intV i)]) (fun i => i ≤ N.length ∧ ∀ q ∈ (lins t).take i, f ≠ 47 :: tx 10 q.1) (by simp) hσ (by simp) (by simp) (by simp) fun i ⟨hi, hno⟩ => ?_
      by_cases hil : i < N.length
      · obtain ⟨q, hq⟩ := get_ex (l := lins t) (i := i) (by omega)
        have hqN : N[i]? = some q.2 := by rw [hN, List.getElem?_map, hq]; rfl
        have hqf := l2 q (List.mem_of_getElem? hq)
        have hT := Table2_p (N.take i) (by simp; omega) (by have := hTl i; omega)
        have hX := Text_p 10 (.inr rfl) q.1 (by omega)
        have hoff : (tabL (N.take i)).length = q.1 := by
          have := lin_off _ _ _ i q hq
          rw [hN, ← List.map_take]
          show (tabL (((lins t).take i).map Prod.snd)).length = q.1
          unfold lins
          omega
        have htl := (tx_prs q.1 (by omega)).2.2
        simp at hT hX
        simp [hil]
        refine ⟨by omega, ?_⟩
        refine Pur.call hT ?_
        simp [hoff]
        refine Pur.call hX ?_
        simp [show 1 + (tx 10 q.1).length ≤ 9223372036854775807 by omega]
        refine ⟨fun hh => ?_, fun hh => ?_⟩
        · have hr := rsl_hit hns hq hh (by omega) hno
          simp [hqN, rslN, rslE, hr, show ¬ ((15 : Int) < (tx 10 q.1).length) by omega, htl]
        · refine ⟨wrap_succ hil (by omega), ⟨hil, fun a b hab => ?_⟩, by omega⟩
          rw [List.take_add_one, hq] at hab
          simp at hab
          rcases hab with hab | rfl
          · exact hno _ hab
          · exact hh
      · have hr := rsl_miss (t := t) hns fun q hq => hno q (by rw [List.take_of_length_le (by omega)]; exact hq)
        simp [hil, rslN, rslE, hr]
      --S1E
  · have hns : ¬ (f.getLast? = some 47 ∧ shortN f.dropLast = true) := by
      rintro ⟨e, _⟩
      rw [hlast] at e
      cases e; exact h47 rfl
    --S2
    refine Pur.call hEn ?_
    simp [h0]
    refine loop_n hmE (by kernel_rfl) N.length (fun i => [(8, intV i)]) (fun i => i ≤ N.length ∧ ∀ q ∈ (lins t).take i, f ≠ 47 :: tx 10 q.1) (by simp) hσ (by simp) (by simp) (by simp) fun i ⟨hi, hno⟩ => ?_
    by_cases hil : i < N.length
    · obtain ⟨q, hq⟩ := get_ex (l := lins t) (i := i) (by omega)
      have hqN : N[i]? = some q.2 := by rw [hN, List.getElem?_map, hq]; rfl
      have hqf := l2 q (List.mem_of_getElem? hq)
      have hT := Table2_p (N.take i) (by simp; omega) (by have := hTl i; omega)
      have hX := Text_p 10 (.inr rfl) q.1 (by omega)
      have hoff : (tabL (N.take i)).length = q.1 := by
        have := lin_off _ _ _ i q hq
        rw [hN, ← List.map_take]
        show (tabL (((lins t).take i).map Prod.snd)).length = q.1
        unfold lins
        omega
      have htl := (tx_prs q.1 (by omega)).2.2
      simp at hT hX
      simp [hil]
      refine ⟨by omega, ?_⟩
      refine Pur.call hT ?_
      simp [hoff]
      refine Pur.call hX ?_
      simp [show 1 + (tx 10 q.1).length ≤ 9223372036854775807 by omega]
      refine ⟨fun hh => ?_, fun hh => ?_⟩
      · have hr := rsl_hit hns hq hh (by omega) hno
        simp [hqN, rslN, rslE, hr, show ¬ ((15 : Int) < (tx 10 q.1).length) by omega, htl]
      · refine ⟨wrap_succ hil (by omega), ⟨hil, fun a b hab => ?_⟩, by omega⟩
        rw [List.take_add_one, hq] at hab
        simp at hab
        rcases hab with hab | rfl
        · exact hno _ hab
        · exact hh
    · have hr := rsl_miss (t := t) hns fun q hq => hno q (by rw [List.take_of_length_le (by omega)]; exact hq)
      simp [hil, rslN, rslE, hr]
    --S2E
end Go.Proofs.YtcjdagpadnahfaaGreatDoor
