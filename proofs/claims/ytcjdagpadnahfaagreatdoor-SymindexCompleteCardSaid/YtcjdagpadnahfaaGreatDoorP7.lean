/- The parts of an archive, one after the other. No condition. -/
import Derived.Test.YtcjdagpadnahfaaGreatDoorP6
set_option linter.unusedVariables false
set_option linter.unusedSimpArgs false
set_option linter.unnecessarySimpa false
namespace Go.Proofs.YtcjdagpadnahfaaGreatDoor
open Go Go.AW
set_option maxRecDepth 100000
set_option maxHeartbeats 8000000

/-- The places of an archive's parts, and what follows them; a part with an error is the last one. -/
def itsG : Nat → W → Nat → List (Nat × W)
  | 0, _, _ => []
  | k + 1, b, a => if b = [] then [] else (a, b) :: if nxtE b ≠ 0 then [] else itsG k (b.drop (nxtN b)) (a + nxtN b)
theorem itsG_fuel : ∀ (k k' : Nat) (b : W) (a : Nat), b.length ≤ k → b.length ≤ k' → itsG k b a = itsG k' b a
  | 0, k', b, a, h, _ => by
    have : b = [] := List.length_eq_zero_iff.1 (by omega)
    subst this
    cases k' <;> simp [itsG]
  | k + 1, 0, b, a, _, h => by
    have : b = [] := List.length_eq_zero_iff.1 (by omega)
    subst this
    simp [itsG]
  | k + 1, k' + 1, b, a, h, h' => by
    rw [itsG, itsG]
    split
    · rfl
    · split
      · rfl
      · rename_i hb hn
        have hn := nxtN_pos (by simpa using hn)
        rw [itsG_fuel k k' _ _ (by simp; omega) (by simp; omega)]
theorem itsG_bad {b : W} {a : Nat} (h : b ≠ []) (he : nxtE b ≠ 0) : itsG b.length b a = [(a, b)] := by
  obtain ⟨k, hk⟩ : ∃ k, b.length = k + 1 := ⟨b.length - 1, by have := List.length_pos_iff.2 h; omega⟩
  rw [hk, itsG, if_neg h, if_pos he]
theorem itsG_ok {b : W} {a : Nat} (h : b ≠ []) (he : nxtE b = 0) : itsG b.length b a = (a, b) :: itsG (b.drop (nxtN b)).length (b.drop (nxtN b)) (a + nxtN b) := by
  obtain ⟨k, hk⟩ : ∃ k, b.length = k + 1 := ⟨b.length - 1, by have := List.length_pos_iff.2 h; omega⟩
  have hn := nxtN_pos he
  rw [hk, itsG, if_neg h, if_neg (by simp [he]), itsG_fuel k (b.drop (nxtN b)).length _ _ (by simp; omega) (Nat.le_refl _)]
def its (b : W) : List (Nat × W) := itsG (b.drop 8).length (b.drop 8) 8
def partsF (b : W) : AV := .fn (.func 85) [] [.pp [bytes b]]
theorem parts_p (m : Int) (b : W) : Pur (EM m) 53 [bytes b] (partsF b) := by
  intro σ
  refine ACalls.frzFn (e := bytes b) (T := 23) (by simp [AV.cells]) ?_
  refine ACalls.enterA [] Tryz.func53 rfl Tryz.ntmps53 Tryz.results53 hmE (by kernel_rfl) (by simp) fun hσ => ?_
  conv => arg 5; cbv
  simp
  exact Fin.same (by simp) ⟨rfl, rfl⟩
def itemP (p : Nat × W) : List AV := [intV p.1, partV p.2]
theorem parts_it (m : Int) (b : W) (hb : b.length ≤ 1000000000) (h8 : 8 ≤ b.length) : Iter (EM m) 85 [.pp [bytes b]] ((its b).map itemP) := by
  intro yb σ I Out hI hO h0 hy
  refine ACalls.enterA [] Tryz.func85 rfl Tryz.ntmps85 Tryz.results85 hmE (by kernel_rfl) (by simp) fun hσ => ?_
  conv => arg 5; cbv
  simp
  refine loop_a (0, 8, σ) (fun x : Nat × Nat × Store => [(3, intV x.2.1)]) (fun x => x.2.2) (fun x => x.2.1 ≤ b.length ∧ itsG (b.drop x.2.1).length (b.drop x.2.1) x.2.1 = (its b).drop x.1 ∧ x.1 ≤ (its b).length ∧ I x.1 x.2.2 ∧ StoreBel x.2.2) (fun x => b.length - x.2.1) ⟨by simp [h8], by simp [its], by simp, h0, hσ⟩ (fun x hx => ⟨hI _ _ hx.2.2.2.1, hx.2.2.2.2, by simp⟩) (Below.refl _) (by simp) ?_
  rintro ⟨j, a, s⟩ ⟨h1, h2, h5, h3, h4⟩
  simp only at h1 h2 h3 h4 h5
  have hrl : (b.drop a).length = b.length - a := by simp
  refine AW.seq (wpA_ok (ow := []) (hmM m) _ _ _ _ (by kernel_rfl) ?_)
  by_cases h : a < b.length
  · simp [h]
    obtain ⟨B, hB⟩ : ∃ B, B = b.drop a := ⟨_, rfl⟩
    have hne : B ≠ [] := by intro e; rw [← hB, e] at hrl; simp at hrl; omega
    rw [← hB] at h2 hrl
    have hN := lift m (next_p B (by omega))
    simp at hN
    have hdm : List.drop a (List.map byteV b) = B.map byteV := by rw [hB, List.map_drop]
    refine AW.block (AW.seq (wpA_ok (ow := []) (hmM m) _ _ _ _ (by kernel_rfl) ?_))
    simp [hdm]
    refine ⟨h1, ?_⟩
    refine Pur.call hN ?_
    simp
    obtain ⟨C, hC⟩ : ∃ C, C = [str (nxtH B).name, intV (nxtH B).t, intV (nxtH B).u, intV (nxtH B).g, intV (nxtH B).m, intV (nxtH B).s, bytes (nxtD B), intV (nxtE B)] := ⟨_, rfl⟩
    have hC' := hC
    simp at hC'
    rw [← hC']
    have hCb : ∀ n, ∀ x ∈ C, Bel n x := by intro n x hx; rw [hC] at hx; simp at hx; rcases hx with rfl | rfl | rfl | rfl | rfl | rfl | rfl | rfl <;> first | exact .c _ | exact bel_bytes _ _
    refine AW.weaken _ s (Weak.some [(0, .fn (.yield yb) [] []), (1, .pp [bytes b]), (3, intV a), (4, .pp C), (5, intV (nxtN B))] ?_ ?_) ?_
    · exact ((Below.refl s).alloc _).forget (hI _ _ h3) h4
    · have hnone : s.get s.next = none := by
        cases hg : s.get s.next with
        | none => rfl
        | some o => exact absurd (h4 _ _ hg).1 (by omega)
      intro p hp
      simp only [List.mem_cons, List.not_mem_nil, or_false] at hp
      rcases hp with rfl | rfl | rfl | rfl | rfl
      · exact ⟨by simp, .of_eq (by simp), .inr (by simp)⟩
      · exact ⟨by simp, .of_eq (by simp), .inr (by simp)⟩
      · exact ⟨by simp, .of_eq (by simp), .inr (by simp)⟩
      · refine ⟨by simp, ?_, .inr (.pp _ (hCb _))⟩
        simp
        exact .rp s.next 0 0 0 108 [.agg C] (.agg C) C (by simp) hnone rfl (by simp [AV.cells]) fun j x y hx hy => by
          simp [AV.cells] at hx
          rw [hx] at hy; cases hy; exact .refl _
      · exact ⟨by simp, .of_eq (by simp), .inr (by simp)⟩
    rw [fr_tL]
    refine wpA_ok (ow := []) (hmM m) _ _ _ _ (by kernel_rfl) ?_
    rw [hC]
    simp
    have hit : (its b)[j]? = some (a, B) := by
      by_cases h0 : nxtE B = 0
      · rw [itsG_ok hne h0] at h2
        exact (drop_cons h2.symm).1
      · rw [itsG_bad hne h0] at h2
        exact (drop_cons h2.symm).1
    have hyy := AYield.bel (hy j (itemP (a, B)) s (by rw [List.getElem?_map, hit]; rfl) h3)
    have hjl := (List.getElem?_eq_some_iff.1 hit).1
    simp [itemP] at hyy
    refine hyy.mono ?_
    rintro r s' ⟨⟨rfl, hI'⟩ | ⟨rfl, ho⟩, hb'⟩
    · by_cases h0 : nxtE B = 0
      · obtain ⟨n1, n2⟩ := nxtN_pos h0
        rw [itsG_ok hne h0] at h2
        obtain ⟨k1, k2⟩ := drop_cons h2.symm
        have w1 : IntKind.i64.wrap ((a : Int) + (nxtN B : Int)) = ((a + nxtN B : Nat) : Int) := (wrap64_id (by omega) (by omega)).trans (by omega)
        simp [h0]
        refine ⟨j + 1, a + nxtN B, s', ⟨⟨by omega, ?_, hjl, hI', hb'⟩, by omega⟩, Below.refl _, w1⟩
        rw [k2, hB, List.drop_drop]
        exact itsG_fuel _ _ _ _ (by simp) (by simp)
      · rw [itsG_bad hne h0] at h2
        have hlen : (its b).length = j + 1 := by
          have := congrArg List.length h2
          simp at this; omega
        simp [h0]
        exact Fin.same (hI _ _ hI') (.inl (by rw [hlen]; exact hI'))
    · simp
      exact Fin.same (hO _ ho) (.inr ho)
  · simp [h]
    have hd : b.drop a = [] := List.drop_eq_nil_of_le (by omega)
    rw [hd] at h2
    have hlen : (its b).length ≤ j := by
      have := congrArg List.length h2
      simp [itsG] at this; omega
    have : j = (its b).length := by omega
    subst this
    exact Fin.same (hI _ _ h3) (.inl h3)
end Go.Proofs.YtcjdagpadnahfaaGreatDoor
