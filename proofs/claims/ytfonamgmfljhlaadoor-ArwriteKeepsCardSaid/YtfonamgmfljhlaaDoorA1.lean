/- Numbers as text, fields, comparing: what the program and the reference share. No condition. -/
import Derived.Test.YtfonamgmfljhlaaDoorAwT
import Derived.Test.YtfonamgmfljhlaaDoorGD
import Derived.Test.YtfonamgmfljhlaaDoorA0
import Derived.Test.YtfonamgmfljhlaaDoorLib
set_option linter.unusedVariables false
set_option linter.unusedSimpArgs false
set_option linter.unnecessarySimpa false
namespace Go.Proofs.YtfonamgmfljhlaaDoor
open Go Go.AW
set_option maxRecDepth 100000
set_option maxHeartbeats 8000000

/-- A word. -/
abbrev W := List UInt8
noncomputable def E : Env := ⟨Tryd.prog, fun g => if g = 1 then some (Lib.pow10Tab.map fun z => .c (.int .u64 z)) else none, fun _ _ => False⟩
@[simp] theorem E_P : E.P = Tryd.prog := rfl
theorem hmE : E.P.follows .mixedOrders = true := by kernel_rfl
abbrev intV (n : Int) : AV := .c (.int .i64 n)
abbrev boolV (b : Bool) : AV := .c (.bool b)
def strs (l : List W) : AV := .ps (l.map str)
def bytes (l : W) : AV := .ps (l.map byteV)
attribute [simp] strs bytes
theorem based_p (b : Int) : Pur E 55 [intV b] (boolV (decide (b = 8 ∨ b = 10))) := by
  refine Pur.enter [] Tryd.func55 rfl Tryd.ntmps55 Tryd.results55 hmE (by kernel_rfl) (by simp) (by simp) fun σ hσ => ?_
  conv => arg 5; cbv
  simp
  by_cases h : b = 8 <;> simp [h]
  rw [Bool.eq_iff_iff]; simp
theorem rbased_p (b : Int) : Pur E 68 [intV b] (boolV (decide (b = 8 ∨ b = 10))) := by
  refine Pur.enter [] Tryd.func68 rfl Tryd.ntmps68 Tryd.results68 hmE (by kernel_rfl) (by simp) (by simp) fun σ hσ => ?_
  conv => arg 5; cbv
  simp
  by_cases h : b = 8 <;> simp [h]
  rw [Bool.eq_iff_iff]; simp
/-- What 'Digits' answers. -/
def dgs (n b : Int) : Nat := if n < 0 ∨ ¬ (b = 8 ∨ b = 10) then 0 else nd b.toNat n.toNat
theorem nd_step (b n : Nat) (h : b = 8 ∨ b = 10) (hn : b ≤ n) : nd b (n / b) + 1 = nd b n := (nd_ge (by omega) hn).symm
theorem divw (n b : Nat) (hn : (n : Int) < 9223372036854775808) : IntKind.i64.wrap ((n : Int) / (b : Int)) = (n : Int) / (b : Int) := by
  have h4 : n / b ≤ n := Nat.div_le_self _ _
  have h2 : (n : Int) / (b : Int) = ((n / b : Nat) : Int) := by simp
  rw [h2]
  generalize n / b = q at h4
  exact wrap64_id (by omega) (by omega)
theorem modw (n b : Nat) (hb : b = 8 ∨ b = 10) : IntKind.i64.wrap ((n : Int) % (b : Int) + 1) = (n : Int) % (b : Int) + 1 := by
  have h3 : n % b < b := Nat.mod_lt _ (by omega)
  have h1 : (n : Int) % (b : Int) = ((n % b : Nat) : Int) := by simp
  rw [h1]
  exact wrap64_id (by omega) (by omega)
theorem bel_bs {m : Nat} (l : W) : ∀ a ∈ l.map byteV, Bel m a := by simp
theorem bel_lg {m i : Nat} (h : i < m) (l : W) : Bel m (.lg i (l.map byteV)) := .lg _ _ h (bel_bs l)
theorem sb_bytes {σ : Store} (hσ : StoreBel σ) (T : TypeId) (g : Nat) (l : W) : StoreBel (σ.alloc (.arr T g (l.map byteV))) := hσ.alloc_arr (by simp)
theorem Digits_p (n b : Int) (hn : n < 9223372036854775808) : Pur E 56 [intV n, intV b] (intV (dgs n b)) := by
  refine Pur.enter [] Tryd.func56 rfl Tryd.ntmps56 Tryd.results56 hmE (by kernel_rfl) (by simp) (by simp) fun σ hσ => ?_
  conv => arg 5; cbv
  simp
  refine ⟨fun h => ?_, fun h => ?_⟩
  · simp [dgs, h]
  · refine Pur.call (based_p b) ?_
    simp
    refine ⟨fun h1 h2 => by simp [dgs, h1, h2], fun h1 => ?_⟩
    have hb : b = 8 ∨ b = 10 := by omega
    obtain ⟨m, rfl⟩ : ∃ m : Nat, n = m := ⟨n.toNat, by omega⟩
    obtain ⟨c, rfl⟩ : ∃ c : Nat, b = c := ⟨b.toNat, by omega⟩
    have hc : c = 8 ∨ c = 10 := by omega
    have hd : dgs m c = nd c m := by rw [dgs, if_neg (by omega)]; rfl
    rw [hd]
    refine loop_x hmE (by kernel_rfl) (· / c) m (fun q : Nat => [(0, intV q), (5, intV ((nd c m + 1 - nd c q : Nat)))]) (fun q : Nat => σ) (fun q : Nat => q ≤ m ∧ nd c q ≤ nd c m) (fun q => q) (by simp) (fun i hi => by simp [hσ]) (by simp) (by simp) fun q ⟨hq, hq2⟩ => ?_
    have h0 : ¬ c = 0 := by omega
    simp [h0, divw q c (by omega)]
    have hp := nd_pos c q
    refine ⟨fun h2 => ?_, fun h2 => ?_⟩
    · have h3 := nd_step c q hc h2
      have h4 : q / c < q := Nat.div_lt_self (by omega) (by omega)
      refine ⟨?_, ⟨by omega, by omega⟩, h4⟩
      have hl := nd_le c m (by omega) (by omega)
      rw [wrap64_id (by omega) (by omega)]
      omega
    · rw [nd_lt h2]
      omega
theorem Same_p (a b : W) (ha : a.length ≤ 9223372036854775807) : Pur E 10 [bytes a, bytes b] (boolV (a == b)) := by
  refine Pur.enter [] Tryd.func10 rfl Tryd.ntmps10 Tryd.results10 hmE (by kernel_rfl) (by simp) (by simp) fun σ hσ => ?_
  conv => arg 5; cbv
  simp
  refine ⟨fun h e => h (by rw [e]), fun hl => ?_⟩
  refine loop_n hmE (by kernel_rfl) a.length (fun i => [(5, intV i)]) (fun i => i ≤ a.length ∧ a.take i = b.take i) (Nat.le_refl _) hσ (by simp) (by simp) (by simp) fun i ⟨hi, he⟩ => ?_
  simp
  refine ⟨fun h => ?_, fun h => ?_⟩
  · rw [wrap_succ h ha]
    have h' : i < b.length := by omega
    refine ⟨a[i], by simp, b[i], by simp, fun hne e => hne (by subst e; rfl), fun e => ⟨rfl, ⟨h, ?_⟩, by omega⟩⟩
    rw [List.take_succ_eq_append_getElem h, List.take_succ_eq_append_getElem h', he, UInt8.toNat_inj.1 (by omega : a[i].toNat = b[i].toNat)]
  · rwa [List.take_of_length_le h, List.take_of_length_le (by omega)] at he
theorem bel_bytes (m : Nat) (l : W) : Bel m (bytes l) := by simp
theorem Add_p (a b : W) (ha : a.length ≤ 1000000000) (hb : b.length ≤ 1000000000) : Pur E 19 [bytes a, bytes b] (bytes (a ++ b)) := by
  refine Pur.enter [] Tryd.func19 rfl Tryd.ntmps19 Tryd.results19 hmE (by kernel_rfl) (by simp) (fun _ => bel_bytes _ _) fun σ hσ => ?_
  conv => arg 5; cbv
  simp
  refine ⟨by omega, by omega, ?_⟩
  split
  · refine ⟨by omega, by omega, ?_⟩
    split <;> simp_all
  · omega
theorem Text_p (b : Nat) (hb : b = 8 ∨ b = 10) : ∀ n : Nat, n < 9223372036854775808 → Pur E 30 [intV n, intV b] (str (tx b n)) := by
  intro n
  induction n using Nat.strongRecOn with
  | _ n ih =>
  intro hn
  refine Pur.enter [] Tryd.func30 rfl Tryd.ntmps30 Tryd.results30 hmE (by kernel_rfl) (by simp) (by simp) fun σ hσ => ?_
  conv => arg 5; cbv
  have h0 : ¬ b = 0 := by omega
  have h3 : n % b < b := Nat.mod_lt _ (by omega)
  have h1 : (n : Int) % (b : Int) = ((n % b : Nat) : Int) := by simp
  have h5 : ((n : Int) % (b : Int)).toNat = n % b := by rw [h1]; rfl
  have h6 : ((n : Int) % (b : Int) + 1).toNat - n % b = 1 := by rw [h1]; omega
  simp [h0, divw n b (by omega), modw n b hb, h5, h6]
  have h10 : n % b < 10 := by omega
  have hd := digit_at (n % b) h10
  refine ⟨by omega, by omega, by omega, fun h => ?_, fun h => ?_⟩
  · rw [tx_lt h, hd]
  · have h7 := ih (n / b) (Nat.div_lt_self (by omega) (by omega)) (by have := Nat.div_le_self n b; omega)
    rw [show ((n / b : Nat) : Int) = (n : Int) / (b : Int) by simp] at h7
    refine Pur.call h7 ?_
    have hl : (tx b (n / b)).length ≤ 21 := by
      rw [tx_len]
      exact nd_le _ _ (by omega) (by have := Nat.div_le_self n b; omega)
    rw [hd]
    simp [show (tx b (n / b)).length ≤ 9223372036854775806 by omega, tx_ge (show 2 ≤ b by omega) h]
def fmtV (n b w : Int) : AV := .tup [bytes (fmtL n b w), intV (fmtE n b w)]
attribute [simp] fmtV
theorem fmt13 {n b w : Int} (h : ¬ (b = 8 ∨ b = 10) ∨ w < 1 ∨ w > 18) : fmtE n b w = 13 ∧ fmtL n b w = [] := by
  have h1 : fmtE n b w = 13 := by rw [fmtE, if_pos h]
  exact ⟨h1, by rw [fmtL, h1, if_neg (by omega)]⟩
theorem fmt9 {n b w : Int} (h : ¬ (¬ (b = 8 ∨ b = 10) ∨ w < 1 ∨ w > 18)) (h2 : n < 0 ∨ w < nd b.toNat n.toNat) : fmtE n b w = 9 ∧ fmtL n b w = [] := by
  have h1 : fmtE n b w = 9 := by rw [fmtE, if_neg h, if_pos h2]
  exact ⟨h1, by rw [fmtL, h1, if_neg (by omega)]⟩
theorem fmt0 {n b w : Int} (h : ¬ (¬ (b = 8 ∨ b = 10) ∨ w < 1 ∨ w > 18)) (h2 : ¬ (n < 0 ∨ w < nd b.toNat n.toNat)) : fmtE n b w = 0 ∧ fmtL n b w = tx b.toNat n.toNat ++ List.replicate (w.toNat - nd b.toNat n.toNat) 32 := by
  have h1 : fmtE n b w = 0 := by rw [fmtE, if_neg h, if_neg h2]
  exact ⟨h1, by rw [fmtL, h1, if_pos rfl]⟩
theorem rFormat_p (n b w : Int) (hn : n < 9223372036854775808) : Pur E 57 [intV n, intV b, intV w] (fmtV n b w) := by
  refine Pur.enter [2000033] Tryd.func57 rfl Tryd.ntmps57 Tryd.results57 hmE (by kernel_rfl) (by simp) (by simp) fun σ hσ => ?_
  conv => arg 5; cbv
  simp
  refine Pur.call (rbased_p b) ?_
  by_cases hbad : ¬ (b = 8 ∨ b = 10) ∨ w < 1 ∨ w > 18
  · obtain ⟨h1, h2⟩ := fmt13 (n := n) hbad
    simp [h1, h2]
    exact fun a b c => by omega
  · have hb : b = 8 ∨ b = 10 := by omega
    simp [hb, show ¬ w < 1 by omega, show ¬ 18 < w by omega]
    refine ⟨fun h => ?_, fun h => ?_⟩
    · obtain ⟨h1, h2⟩ := fmt9 (n := n) hbad (.inl h)
      simp [h1, h2]
    · obtain ⟨m, rfl⟩ : ∃ m : Nat, n = m := ⟨n.toNat, by omega⟩
      obtain ⟨c, rfl⟩ : ∃ c : Nat, b = c := ⟨b.toNat, by omega⟩
      obtain ⟨v, rfl⟩ : ∃ v : Nat, w = v := ⟨w.toNat, by omega⟩
      have hT := Text_p c (by omega) m (by omega)
      refine Pur.call hT ?_
      simp
      have hl : (tx c m).length = nd c m := tx_len c m
      refine ⟨fun h2 => ?_, fun h2 => ?_⟩
      · obtain ⟨h1, h2⟩ := fmt9 (n := m) hbad (.inr (by simpa [hl] using h2))
        simp [h1, h2]
      · obtain ⟨h3, h4⟩ := fmt0 (n := m) hbad (fun h => by simp at h; omega)
        refine Pur.call hT ?_
        rw [h3, h4]
        simp
        have hle : nd c m ≤ v := by omega
        refine ⟨by omega, loop_x hmE (by kernel_rfl) (· + 1) 0 (fun j : Nat => [(8, .lg σ.next ((tx c m ++ List.replicate j 32).map byteV))]) (fun j : Nat => σ.alloc (.log 5 (nd c m + j))) (fun j : Nat => nd c m + j ≤ v) (fun j => v - j) (by simpa using hle) (fun i hi => ⟨by simp, by simp [hσ], by have := bel_lg (Nat.lt_succ_self σ.next) (tx c m ++ List.replicate i 32); simp at this; simpa using this⟩) (by simp [hl]) (by simp [hl]) fun j hj => ?_⟩
        simp [hl]
        refine ⟨fun h => ⟨by omega, by omega, Below.refl _, (List.replicate_succ' ..).symm, by omega, by omega⟩, fun h => by omega⟩
theorem Format_p (n b w : Int) (hn : n < 9223372036854775808) : Pur E 37 [intV n, intV b, intV w] (fmtV n b w) := by
  refine Pur.enter [34] Tryd.func37 rfl Tryd.ntmps37 Tryd.results37 hmE (by kernel_rfl) (by simp) (by simp) fun σ hσ => ?_
  conv => arg 5; cbv
  simp
  refine Pur.call (based_p b) ?_
  by_cases hbad : ¬ (b = 8 ∨ b = 10) ∨ w < 1 ∨ w > 18
  · obtain ⟨h1, h2⟩ := fmt13 (n := n) hbad
    simp [h1, h2]
    exact fun a b c => by omega
  · have hb : b = 8 ∨ b = 10 := by omega
    simp [hb, show ¬ w < 1 by omega, show ¬ 18 < w by omega]
    refine Pur.call (Digits_p n b hn) ?_
    simp
    refine ⟨fun h => ?_, fun h => ?_⟩
    · obtain ⟨h1, h2⟩ := fmt9 (n := n) hbad (.inl h)
      simp [h1, h2]
    · obtain ⟨m, rfl⟩ : ∃ m : Nat, n = m := ⟨n.toNat, by omega⟩
      obtain ⟨c, rfl⟩ : ∃ c : Nat, b = c := ⟨b.toNat, by omega⟩
      obtain ⟨v, rfl⟩ : ∃ v : Nat, w = v := ⟨w.toNat, by omega⟩
      have hd : dgs m c = nd c m := by rw [dgs, if_neg (by omega)]; rfl
      rw [hd]
      refine ⟨fun h2 => ?_, fun h2 => ?_⟩
      · obtain ⟨h1, h2⟩ := fmt9 (n := m) hbad (.inr (by simpa using h2))
        simp [h1, h2]
      · obtain ⟨h3, h4⟩ := fmt0 (n := m) hbad (fun h => by simp at h; omega)
        rw [h3, h4]
        refine ⟨by omega, by omega, by omega, loop_x hmE (by kernel_rfl) (· + 1) 0 (fun j : Nat => [(36, intV j)]) (fun j : Nat => σ.alloc (.arr 5 0 ((List.replicate j (32 : UInt8) ++ List.replicate (v - j) 0).map byteV))) (fun j : Nat => j ≤ v) (fun j => v - j) (by simp) (fun i hi => ⟨by simp, sb_bytes hσ _ _ _, by simp⟩) (by simp) (by simp) fun j hj => ?_⟩
        obtain ⟨L, hL⟩ : ∃ L, L = List.replicate j (32 : UInt8) ++ List.replicate (v - j) 0 := ⟨_, rfl⟩
        have hLl : L.length = v := by rw [hL]; simp; omega
        rw [← hL]
        simp
        refine ⟨fun h => ?_, fun h => ?_⟩
        · obtain ⟨e, he⟩ := get_ex (l := L) (i := j) (by omega)
          simp [he, h]
          refine ⟨?_, by rw [wrap_succ h (by omega)], by omega, by omega⟩
          have e1 : v - j = (v - (j + 1)) + 1 := by omega
          have : (L.map byteV).set j (.c (.int .u8 32)) = (List.replicate (j + 1) (32 : UInt8) ++ List.replicate (v - (j + 1)) 0).map byteV := by
            rw [← rep_fill, ← e1, ← hL, List.map_set]; rfl
          simp at this
          rw [this]
          exact Below.refl _
        · have hj' : j = v := by omega
          subst hj'
          simp at hL
          subst hL
          refine loop_x hmE (by kernel_rfl) (fun x : W × Nat × Nat => (dg (x.2.2 % c) :: x.1, x.2.1 + 1, x.2.2 / c)) ([], 0, m) (fun x => [(44, intV x.2.1), (0, intV x.2.2)]) (fun x => σ.alloc (.arr 5 0 ((List.replicate (nd c m - x.2.1) (32 : UInt8) ++ (x.1 ++ List.replicate (j - nd c m) 32)).map byteV)))
            (fun x => x.2.2 ≤ m ∧ x.1.length = x.2.1 ∧ (x.2.1 = nd c m ∧ x.1 = tx c m ∨ x.2.1 < nd c m ∧ tx c m = tx c x.2.2 ++ x.1 ∧ nd c x.2.2 = nd c m - x.2.1)) (fun x => nd c m - x.2.1) ⟨Nat.le_refl _, rfl, .inr ⟨nd_pos c m, by simp, by simp⟩⟩ (fun i hi => ⟨by simp, sb_bytes hσ _ _ _, by simp⟩) (by
              have e1 : List.replicate (nd c m) (32 : UInt8) ++ List.replicate (j - nd c m) 32 = List.replicate j 32 := by rw [List.replicate_append_replicate]; congr 1; omega
              simp [e1]) (by simp) fun x hx => ?_
          obtain ⟨suf, i, q⟩ := x
          obtain ⟨hqm, hsuf, hor⟩ := hx
          simp only at hqm hsuf hor
          obtain ⟨L, hL⟩ : ∃ L, L = List.replicate (nd c m - i) (32 : UInt8) ++ (suf ++ List.replicate (j - nd c m) 32) := ⟨_, rfl⟩
          have hLl : L.length = j := by rw [hL]; simp; omega
          have hnd18 : nd c m ≤ 18 := by omega
          have hc0 : c ≠ 0 := by omega
          have hmod : q % c < 10 := by have := Nat.mod_lt q (show 0 < c by omega); omega
          have hdl : q / c ≤ q := Nat.div_le_self q c
          have htq : (q < c ∧ tx c q = [dg (q % c)] ∧ nd c q = 1) ∨ (tx c q = tx c (q / c) ++ [dg (q % c)] ∧ nd c q = nd c (q / c) + 1) := by
            by_cases h : q < c
            · exact .inl ⟨h, tx_lt h, nd_lt h⟩
            · exact .inr ⟨tx_ge (by omega) (by omega), nd_ge (by omega) (by omega)⟩
          have hnp := nd_pos c (q / c)
          have hnm := nd_pos c m
          have hw1 : IntKind.i64.wrap ((nd c m : Int) - 1) = (nd c m : Int) - 1 := wrap64_id (by omega) (by omega)
          have hw2 : IntKind.i64.wrap ((nd c m : Int) - 1 - i) = (nd c m : Int) - 1 - i := wrap64_id (by omega) (by omega)
          have hw3 : IntKind.u8.wrap (IntKind.i64.wrap (48 + (q : Int) % (c : Int))) = ((dg (q % c)).toNat : Int) := by
            have h1 : (q : Int) % (c : Int) = ((q % c : Nat) : Int) := by simp
            rw [h1, wrap64_id (by omega) (by omega), dg_wrap _ hmod]
          rw [← hL]
          simp [hc0, hw1, hw2, hw3, divw q c (by omega)]
          refine ⟨fun hi => ?_, ?_⟩
          · have hix : ((nd c m : Int) - 1 - i).toNat = nd c m - 1 - i := by omega
            obtain ⟨e, he⟩ := get_ex (l := L) (i := nd c m - 1 - i) (by omega)
            simp [hix, he]
            refine ⟨by omega, by omega, ?_, by rw [wrap_succ hi (by omega)], ⟨by omega, hsuf, ?_⟩, by omega⟩
            · have e2 : nd c m - i = (nd c m - (i + 1)) + 1 := by omega
              have e3 : nd c m - 1 - i = nd c m - (i + 1) := by omega
              have : (L.map byteV).set (nd c m - 1 - i) (.c (.int .u8 (dg (q % c)).toNat)) = (List.replicate (nd c m - (i + 1)) (32 : UInt8) ++ (dg (q % c) :: (suf ++ List.replicate (j - nd c m) 32))).map byteV := by
                rw [dg_set, hL, e3, e2, rep_set]
              simp at this
              rw [this]
              exact Below.refl _
            · obtain ⟨_, htx, hnd⟩ : i < nd c m ∧ tx c m = tx c q ++ suf ∧ nd c q = nd c m - i := by
                rcases hor with h | h
                · omega
                · exact h
              rcases htq with ⟨t1, t2, t3⟩ | ⟨t2, t3⟩
              · refine .inl ⟨by omega, ?_⟩
                rw [htx, t2]; rfl
              · refine .inr ⟨by omega, ?_, by omega⟩
                rw [htx, t2]; simp
          · intro hi
            obtain ⟨h5, hs⟩ : i = nd c m ∧ suf = tx c m := by
              rcases hor with h | h
              · exact h
              · omega
            rw [if_pos (by omega), List.take_of_length_le (by simp; omega), hL, hs, h5]
            simp
end Go.Proofs.YtfonamgmfljhlaaDoor
