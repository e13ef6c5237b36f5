/- The laws. No condition. -/
import Derived.Test.YtkbklfodaemkoaaDoorA11
set_option linter.unusedVariables false
set_option linter.unusedSimpArgs false
set_option linter.unnecessarySimpa false
namespace Go.Proofs.YtkbklfodaemkoaaDoor
open Go Go.AW
set_option pp.deepTerms true
set_option pp.maxSteps 50000
set_option maxRecDepth 100000
set_option maxHeartbeats 8000000

theorem psz_even (n : Nat) : psz n % 2 = 0 := by unfold psz; omega
theorem szp_even (l : List M) : szp l % 2 = 0 := by
  induction l with
  | nil => rfl
  | cons m l ih =>
    have := psz_even m.data.length
    simp [szp] at ih ⊢
    omega
theorem baseP_even (l : List M) : baseP false 0 l % 2 = 0 := by
  have := psz_even (nmsT l).length
  unfold baseP
  by_cases h : nmsT l = [] <;> simp [h] <;> omega
theorem baseP_true (k : Nat) (l : List M) : baseP true k l = baseP false 0 l + psz k := by
  simp [baseP]
  omega
theorem offP_get {base : Nat} {l : List M} {i n : Nat} (h : i < n) : (offP base l n)[i]? = some ((base + szp (l.take i) : Nat) : Int) := by
  simp [offP, h]
theorem OffsetsL_p (k : Nat) (l : List M) (hk : k < 65536) (hll : l.length ≤ 9223372036854775807) (hb : inR l) : Pur E 6 [.c (.int .u16 k), memsV l] (boolV true) := by
  have hkw : IntKind.i64.wrap (k : Int) = (k : Int) := wrap64_id (by omega) (by omega)
  refine Pur.enter [] Tryd.func6 rfl Tryd.ntmps6 Tryd.results6 hmE (by kernel_rfl) (by simp) (by simp) fun σ hσ => ?_
  conv => arg 5; cbv
  simp
  refine Pur.call awake_p ?_
  simp
  refine Pur.call (Few_p l hll) ?_
  simp
  refine ⟨fun hf => ?_, fun hf => ?_⟩
  · refine Pur.call awake_p ?_
    simp
  · obtain ⟨hl, _⟩ := few_of hf hb
    refine Pur.call (Offsets_p false 0 l (by omega) hl) ?_
    simp [hkw]
    refine Pur.call (Offsets_p true k l (by omega) hl) ?_
    simp
    refine Pur.call (rAFits_p l hl) ?_
    simp
    refine ⟨fun h0 => by simp [offsP, h0], fun h0 => ?_⟩
    have hE1 : offsP false 0 l = offP (baseP false 0 l) l l.length := by rw [offsP, if_pos h0]
    have hE2 : offsP true k l = offP (baseP true k l) l l.length := by rw [offsP, if_pos h0]
    rw [hE1, hE2, baseP_true]
    simp
    have hB : baseP false 0 l ≤ 10000000 := by
      have := nmsT_len hl
      simp [baseP, psz]
      split <;> omega
    obtain ⟨B, hBB⟩ : ∃ B, B = baseP false 0 l := ⟨_, rfl⟩
    have hBe := baseP_even l
    rw [← hBB] at hBe hB ⊢
    have hll := hl.1
    refine loop_n hmE (by kernel_rfl) l.length (fun i => [(9, intV i)]) (fun i => i ≤ l.length) (Nat.le_refl _) hσ (by simp) (by simp) (by simp) fun i hi => ?_
    simp
    intro h
    have hsz := szp_le hl i
    have he := szp_even (l.take i)
    have hpk : psz k = 60 + k + k % 2 := rfl
    have hd : IntKind.i64.wrap (((B + psz k + szp (l.take i) : Nat) : Int) - ((B + szp (l.take i) : Nat) : Int)) = ((psz k : Nat) : Int) := (wrap64_id (by omega) (by omega)).trans (by omega)
    have hk1 : IntKind.i64.wrap (IntKind.i64.wrap (60 + IntKind.i64.wrap (k : Int)) + (IntKind.i64.wrap (k : Int)).tmod 2) = ((psz k : Nat) : Int) := by
      rw [hkw, tmod2, wrap64_id (x := 60 + (k : Int)) (by omega) (by omega)]
      exact (wrap64_id (by omega) (by omega)).trans (by omega)
    have hev : (((B + szp (l.take i) : Nat) : Int)).tmod 2 = 0 := by
      rw [tmod2]
      omega
    have hfin : IntKind.i64.wrap ((i : Int) + 1) = (i : Int) + 1 ∧ i + 1 ≤ l.length ∧ l.length - (i + 1) < l.length - i := ⟨wrap_succ h (by omega), by omega, by omega⟩
    refine ⟨_, offP_get h, hev, fun _ => ⟨_, offP_get h, _, offP_get h, by rw [hd, hk1], fun _ => ⟨fun hi0 => ?_, fun _ => hfin⟩⟩⟩
    obtain ⟨j, rfl⟩ : ∃ j, i = j + 1 := ⟨i - 1, by omega⟩
    have hw : IntKind.i64.wrap (((j + 1 : Nat) : Int) - 1) = (j : Int) := (wrap64_id (by omega) (by omega)).trans (by omega)
    rw [hw]
    obtain ⟨x, hx⟩ := get_ex (l := l) (i := j) (by omega)
    have hst := szp_take hx
    have hdl := (hl.2 x (List.mem_of_getElem? hx)).2.2.2.2.2
    have hpx : psz x.data.length = 60 + x.data.length + x.data.length % 2 := rfl
    have hx1 : IntKind.i64.wrap (IntKind.i64.wrap (60 + (x.data.length : Int)) + ((x.data.length : Int)).tmod 2) = ((psz x.data.length : Nat) : Int) := by
      rw [tmod2, wrap64_id (x := 60 + (x.data.length : Int)) (by omega) (by omega)]
      exact (wrap64_id (by omega) (by omega)).trans (by omega)
    have hx2 : IntKind.i64.wrap (((B + szp (l.take (j + 1)) : Nat) : Int) - ((B + szp (l.take j) : Nat) : Int)) = ((psz x.data.length : Nat) : Int) := (wrap64_id (by omega) (by omega)).trans (by omega)
    refine ⟨_, offP_get h, by omega, _, offP_get (i := j) (by omega), by omega, x, hx, by omega, x, hx, by rw [hx2, hx1], fun _ => hfin⟩
end Go.Proofs.YtkbklfodaemkoaaDoor
