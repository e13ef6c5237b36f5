/- The reference's decoding. No condition. -/
import Derived.Test.YtcjdagpadnahfaaGreatDoorB4
set_option linter.unusedVariables false
set_option linter.unusedSimpArgs false
set_option linter.unnecessarySimpa false
namespace Go.Proofs.YtcjdagpadnahfaaGreatDoor
open Go Go.AW
set_option maxRecDepth 100000
set_option maxHeartbeats 8000000

/-- The store at the loop's head. -/
def tauR (σ : Store) (l : List Sm) : Store := (((σ.alloc (.arr 71 0 [.agg [.nl, .nl]])).alloc (.arr 71 0 [.agg [.nl, .nl]])).alloc (.log 68 l.length)).set (σ.next + 1) (.arr 71 0 [.agg [.lg (σ.next + 2) (l.map symV), .nl]])
theorem rDecode_p (b : W) (hbl : b.length ≤ 1000000) : Pur E 46 [bytes b] (decV b) := by
  obtain ⟨D, hD⟩ : ∃ D, D = decO b := ⟨_, rfl⟩
  unfold decV
  rw [← hD]
  refine Pur.enter [2000104, 7000111, 6000077] Tryz.func46 rfl Tryz.ntmps46 Tryz.results46 hmE (by kernel_rfl) (by simp) (by simp [objV]) fun σ hσ => ?_
  conv => arg 5; cbv
  by_cases h4 : b.length < 4
  · have e4 : ((b.length : Int) < 4) = True := by simp; omega
    simp [-thenK_normal]
    repeat (simp only [thenK_normal]; simp [-thenK_normal, e4])
    simp [hD, decO, h4, objV]
  have e4 : ((b.length : Int) < 4) = False := by simp; omega
  by_cases hM : b.take 4 = [79, 66, 74, 49]
  · by_cases h8 : b.length < 8
    · have e8 : ((b.length : Int) < 8) = True := by simp; omega
      simp [-thenK_normal]
      repeat (simp only [thenK_normal]; simp [-thenK_normal, e4, e8, hM])
      have hD2 : D = (2, [], []) := by rw [hD, decO, if_neg h4, if_neg (by simpa using hM), if_pos h8]
      simp [hD2, objV]; omega
    have e8 : ((b.length : Int) < 8) = False := by simp; omega
    obtain ⟨n, hn⟩ : ∃ n, n = num4 (b.drop 4) := ⟨_, rfl⟩
    have hnl := num4_lt (b.drop 4)
    rw [← hn] at hnl
    have hnum : Pur E 77 [AV.ps (List.drop 4 (List.take 8 (List.map byteV b)))] (intV n) := by
      have h := Number_p ((b.take 8).drop 4) (by simp; omega)
      have en : num4 ((b.take 8).drop 4) = n := by rw [hn]; simp [num4, List.getElem?_take, List.getElem?_drop]
      rw [en] at h
      simpa using h
    by_cases h6 : 65536 < n
    · have e6 : (65536 < (n : Int)) = True := by simp; omega
      simp [-thenK_normal]
      repeat (simp only [thenK_normal]; simp [-thenK_normal, e4, e8, hM])
      refine ⟨by omega, by omega, Pur.call hnum ?_⟩
      simp [-thenK_normal]
      repeat (simp only [thenK_normal]; simp [-thenK_normal, e6])
      have hD2 : D = (12, [], []) := by rw [hD, decO, if_neg h4, if_neg (by simpa using hM), if_neg h8, ← hn, if_pos h6]
      simp [hD2, objV]
    have e6 : (65536 < (n : Int)) = False := by simp; omega
    have eD : D = decS n (b.drop 8) [] := by rw [hD, decO, if_neg h4, if_neg (by simpa using hM), if_neg h8, ← hn, if_neg h6]
    clear hD
    simp [-thenK_normal]
    repeat (simp only [thenK_normal]; simp [-thenK_normal, e4, e8, hM])
    refine ⟨by omega, by omega, Pur.call hnum ?_⟩
    simp [-thenK_normal]
    repeat (simp only [thenK_normal]; simp [-thenK_normal, e6])
    refine loopW.adopt1 (p := σ.next + 1) (T := 71) (g := 0) (cs := [.nl, .nl]) (cs' := [.lg (σ.next + 2) [], .nl]) 68 (by simp) (by simp [cellsAs]) ?_
    have hτ : ∀ l : List Sm, StoreBel (tauR σ l) := fun l => by
      refine StoreBel.set_obj (StoreBel.alloc_log (StoreBel.alloc_arr (StoreBel.alloc_arr hσ (by simp)) (by simp)) _ _) (by simp) ?_
      intro e he x hx
      simp at he; subst he; simp [AV.cells] at hx
      rcases hx with rfl | rfl
      · refine .lg _ _ (by simp) fun a ha => ?_
        obtain ⟨v, _, rfl⟩ := List.mem_map.1 ha; simp
      · exact .nl
    refine loop_e hmE (by kernel_rfl) (0, 8, []) (fun x : Nat × Nat × List Sm => [(7, intV x.1), (6, intV x.2.1)]) (fun x => tauR σ x.2.2)
      (fun x => x.1 ≤ n ∧ x.2.1 ≤ b.length ∧ D = decS (n - x.1) (b.drop x.2.1) x.2.2 ∧ x.2.2.length = x.1) (fun x => n - x.1) ⟨Nat.zero_le _, by simp; omega, eD, rfl⟩ (fun x _ => ⟨by simp [tauR]; omega, hτ _, by simp [tauR]; omega⟩) (Below.refl _) (by simp) ?_
    · rintro ⟨i, p, l⟩ ⟨x1, x2, x3, x4⟩
      simp only at x1 x2 x3 x4
      by_cases hin : i < n
      · rw [show n - i = (n - (i + 1)) + 1 by omega, decS] at x3
        have hdl : (b.drop p).length = b.length - p := by simp
        have w10 : IntKind.i64.wrap ((p : Int) + 10) = (p : Int) + 10 := wrap64_id (by omega) (by omega)
        by_cases hA : b.length < p + 10
        · rw [if_pos (.inl (by omega))] at x3
          have eA : ((b.length : Int) < (p : Int) + 10) = True := by simp; omega
          simp [-thenK_normal, hin]
          repeat (simp only [thenK_normal]; simp [-thenK_normal, hin, w10, eA, tauR])
          simp [x3, objV]
        · have eA : ((b.length : Int) < (p : Int) + 10) = False := by simp; omega
          obtain ⟨b9, h9⟩ := get_ex (l := b) (i := p + 9) (by omega)
          obtain ⟨b0, h0⟩ := get_ex (l := b) (i := p) (by omega)
          have hb9 := b9.toNat_lt
          have hb0 := b0.toNat_lt
          have g9 : (b.drop p).getD 9 0 = b9 := by simp [List.getD, h9]
          rw [g9] at x3
          have c9 : IntKind.i64.wrap (b9.toNat : Int) = b9.toNat := wrap64_id (by omega) (by omega)
          have c0 : IntKind.i64.wrap (b0.toNat : Int) = b0.toNat := wrap64_id (by omega) (by omega)
          have w9 : IntKind.i64.wrap ((p : Int) + 9) = (p : Int) + 9 := wrap64_id (by omega) (by omega)
          have w19 : IntKind.i64.wrap ((p : Int) + 10 + b9.toNat) = (p : Int) + 10 + b9.toNat := wrap64_id (by omega) (by omega)
          have i9 : ((p : Int) + 9).toNat = p + 9 := by omega
          by_cases hB : b.length < p + 10 + b9.toNat
          · rw [if_pos (.inr (by omega))] at x3
            have eB : ((b.length : Int) < (p : Int) + 10 + b9.toNat) = True := by simp; omega
            simp [-thenK_normal, hin]
            repeat (simp only [thenK_normal]; simp [-thenK_normal, hin, w10, w9, w19, i9, h9, c9, eA, eB, tauR])
            simp [x3, objV]; omega
          · rw [if_neg (by omega)] at x3
            have eB : ((b.length : Int) < (p : Int) + 10 + b9.toNat) = False := by simp; omega
            have w1 : IntKind.i64.wrap ((p : Int) + 1) = (p : Int) + 1 := wrap64_id (by omega) (by omega)
            have w5 : IntKind.i64.wrap ((p : Int) + 5) = (p : Int) + 5 := wrap64_id (by omega) (by omega)
            have i1 : ((p : Int) + 1).toNat = p + 1 := by omega
            have i5 : ((p : Int) + 5).toNat = p + 5 := by omega
            have i10 : ((p : Int) + 10).toNat = p + 10 := by omega
            have i19 : ((p : Int) + 10 + b9.toNat).toNat = p + 10 + b9.toNat := by omega
            have ys : (symAt (b.drop p)).name = List.drop (p + 10) (List.take (p + 10 + b9.toNat) b) ∧ (symAt (b.drop p)).bind = b0.toNat := by
              refine ⟨?_, by simp [symAt, h0]⟩
              simp only [symAt, g9]
              rw [List.drop_take, List.drop_drop, show p + 10 + b9.toNat - (p + 10) = b9.toNat by omega]
            have N1 : Pur E 77 [AV.ps (List.drop (p + 1) (List.take (p + 5) (List.map byteV b)))] (intV (symAt (b.drop p)).size) := by
              have h := Number_p ((b.take (p + 5)).drop (p + 1)) (by simp; omega)
              have en : num4 ((b.take (p + 5)).drop (p + 1)) = num4 ((b.drop p).drop 1) := by simp [num4, List.getElem?_take, List.getElem?_drop]
              rw [en] at h
              simpa [symAt] using h
            have N5 : Pur E 77 [AV.ps (List.drop (p + 5) (List.take (p + 9) (List.map byteV b)))] (intV (symAt (b.drop p)).align) := by
              have h := Number_p ((b.take (p + 9)).drop (p + 5)) (by simp; omega)
              have en : num4 ((b.take (p + 9)).drop (p + 5)) = num4 ((b.drop p).drop 5) := by simp [num4, List.getElem?_take, List.getElem?_drop]
              rw [en] at h
              simpa [symAt] using h
            rw [List.drop_drop, show p + (10 + b9.toNat) = p + 10 + b9.toNat by omega] at x3
            obtain ⟨y, hy⟩ : ∃ y, y = symAt (b.drop p) := ⟨_, rfl⟩
            rw [← hy] at ys x3 N1 N5
            obtain ⟨yn, yb, yz, ya⟩ := y
            obtain ⟨rfl, rfl⟩ := ys
            clear hy
            simp only at N1 N5 x3
            simp [-thenK_normal, hin]
            repeat (simp only [thenK_normal]; simp [-thenK_normal, hin, w10, w9, w19, w1, w5, i1, i5, i10, i19, i9, h9, h0, c9, c0, eA, eB, tauR])
            repeat (refine ⟨by first | omega | exact fun a ha => isB_mem (List.mem_of_mem_take (List.mem_of_mem_drop ha)), ?_⟩)
            refine Pur.q N1 ?_
            simp [-thenK_normal, w9, w5, i5, i9]
            repeat (refine ⟨by omega, ?_⟩)
            refine Pur.q N5 ?_
            simp [-thenK_normal]
            repeat (simp only [thenK_normal]; simp [-thenK_normal])
            refine ⟨⟨(N5 _).mono fun a s h => ⟨h.2, h.1⟩, ⟨by omega, by omega, by rw [i5, i9]⟩, (N1 _).mono fun a s h => ⟨h.2, h.1⟩, ⟨by omega, by omega, by rw [i5]⟩, c0, ⟨b0, h0, rfl⟩, fun a ha => isB_mem (List.mem_of_mem_take (List.mem_of_mem_drop ha)), by omega, by omega, by omega, by rw [i10, i19]⟩, ?_⟩
            have hnl2 : (List.drop (p + 10) (List.take (p + 10 + b9.toNat) b)).length ≤ 255 := by simp; omega
            obtain ⟨nm, hnm⟩ : ∃ nm, nm = List.drop (p + 10) (List.take (p + 10 + b9.toNat) b) := ⟨_, rfl⟩
            rw [← hnm] at x3 hnl2 ⊢
            have hS := Sym_p ⟨nm, b0.toNat, yz, ya⟩
            have hH := has_p l nm (by omega)
            have ll : l.length ≤ 65536 := by omega
            simp at hS hH
            clear N1 N5
            have z1 : ¬ σ.next = σ.next + 1 + 2 := by omega
            have z2 : ¬ σ.next + 1 = σ.next + 1 + 2 := by omega
            have z3 : ¬ σ.next + 2 = σ.next + 1 + 2 := by omega
            have z4 : ¬ σ.next + 1 + 2 = σ.next := by omega
            have z5 : ¬ σ.next + 1 + 2 = σ.next + 1 := by omega
            have z6 : ¬ σ.next + 1 + 2 = σ.next + 2 := by omega
            cases hok : okS ⟨nm, b0.toNat, yz, ya⟩ with
            | false =>
              rw [hok] at hS x3
              simp at x3
              refine Pur.call hS ?_
              simp [-thenK_normal, z1, z2, z3, z4, z5, z6]
              repeat (simp only [thenK_normal]; simp [-thenK_normal, z1, z2, z3, z4, z5, z6])
              simp [x3, objV, z1]
              repeat (first | exact Below.refl _ | refine Below.alloc ?_ _)
            | true =>
              rw [hok] at hS x3
              simp only [Bool.true_and] at x3
              refine Pur.call hS ?_
              simp [-thenK_normal, z1, z2, z3, z4, z5, z6]
              refine Pur.call hH ?_
              cases hs : hasS l nm with
              | true =>
                rw [hs] at x3
                simp at x3
                simp [-thenK_normal, z1, z2, z3, z4, z5, z6]
                repeat (simp only [thenK_normal]; simp [-thenK_normal, z1, z2, z3, z4, z5, z6])
                simp [x3, objV, z1]
                repeat (first | exact Below.refl _ | refine Below.alloc ?_ _)
              | false =>
                rw [hs] at x3
                simp at x3
                simp [-thenK_normal, z1, z2, z3, z4, z5, z6]
                repeat (simp only [thenK_normal]; simp [-thenK_normal, z1, z2, z3, z4, z5, z6])
                refine ⟨by omega, by omega, i + 1, p + 10 + b9.toNat, l ++ [⟨nm, b0.toNat, yz, ya⟩], ⟨⟨by omega, by omega, x3, by simp; omega⟩, by omega⟩, ?_, ?_⟩
                · simp
                · exact ⟨by omega, by rw [wrap_succ hin (by omega)]; omega⟩
      · obtain rfl : i = n := by omega
        rw [Nat.sub_self, decS] at x3
        simp [-thenK_normal]
        repeat (simp only [thenK_normal]; simp [-thenK_normal, tauR, x2])
        refine ⟨fun a ha => ?_, by omega, by omega, by simp [x3, objV], by simp [x3]⟩
        obtain ⟨c, _, rfl⟩ := List.mem_map.1 (List.mem_of_mem_drop ha)
        rfl
  · simp [-thenK_normal, hM]
    repeat (simp only [thenK_normal]; simp [-thenK_normal, e4, hM])
    have hD2 : D = (1, [], []) := by rw [hD, decO, if_neg h4, if_pos hM]
    simp [hD2, objV]; omega
end Go.Proofs.YtcjdagpadnahfaaGreatDoor
