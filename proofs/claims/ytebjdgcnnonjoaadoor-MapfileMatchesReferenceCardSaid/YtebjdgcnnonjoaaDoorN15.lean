/- One line, the reference's way. No condition. -/
import Derived.Test.YtebjdgcnnonjoaaDoorN13
set_option linter.unusedVariables false
set_option linter.unusedSimpArgs false
set_option linter.unnecessarySimpa false
namespace Go.Proofs.YtebjdgcnnonjoaaDoor
open Go Go.AW
set_option maxRecDepth 100000
set_option maxHeartbeats 100000000

theorem gen_loop {E : Env} {n N : Nat} {ow lv : List Nat} {c : ACode} {f : Nat → AV} {σ : Store} {Q : Kn} (h : ∀ K, K = Q → loopW E n N ow lv c f σ K) : loopW E n N ow lv c f σ Q := h Q rfl
theorem one_p (l : W) (hl : l.length ≤ 3000) : Pur E 27 [str l] (oneV l) := by
  refine Pur.enter [3000007] Tryd.func27 rfl Tryd.ntmps27 Tryd.results27 hmE (by kernel_rfl) (by simp) (fun _ => bel_oneV _ _) fun σ hσ => ?_
  conv => arg 5; cbv
  simp
  refine Pur.call (rSplit_p l 32 (by omega)) ?_
  simp
  obtain ⟨ws, hws⟩ : ∃ ws, ws = sp 32 l := ⟨_, rfl⟩
  have hwl : ws.length ≤ l.length + 1 := by rw [hws, sp_count]; have := List.count_le_length (a := (32 : UInt8)) (l := l); omega
  have hwm : ∀ w ∈ ws, w.length ≤ l.length := fun w hw => by rw [hws] at hw; exact sp_len hw
  have hL : l.length ≤ 9223372036854775802 := by omega
  have hne : ws ≠ [] := by rw [hws]; exact spA_ne 32 [] l
  rw [← hws]
  obtain ⟨M, hM⟩ : ∃ M, M = ws.map fun w => str (unV w).1 := ⟨_, rfl⟩
  have hσ2 : StoreBel ((σ.alloc (.arr 33 0 [.agg [.nl, .nl, .nl]])).alloc (.arr 33 0 [.agg [.nl, .nl, .nl]])) := StoreBel.alloc_arr (StoreBel.alloc_arr hσ (by simp)) (by simp)
  refine gen_loop fun K hK => ?_
  refine loop_x hmE (by kernel_rfl) (· + 1) 0 (fun j : Nat => [(7, .lg (σ.next + 2) ((ws.take j).map fun w => str (unV w).1)), (8, intV j)]) (fun j : Nat => ((σ.alloc (.arr 33 0 [.agg [.nl, .nl, .nl]])).alloc (.arr 33 0 [.agg [.nl, .nl, .nl]])).alloc (.log 9 j))
    (fun j : Nat => j ≤ ws.length) (fun j => ws.length - j) (Nat.zero_le _) (fun j hj => ⟨by simp; omega, hσ2.alloc_log _ _, ?_⟩) (by simp) (by simp) fun j hj => ?_
  · simp
    omega
  · simp
    refine ⟨fun h => ?_, fun h => ?_⟩
    · obtain ⟨w, hw⟩ := get_ex h
      have hwlen := hwm w (List.mem_of_getElem? hw)
      refine ⟨w, hw, Pur.call (rUnescape_p w (by omega)) ?_⟩
      simp
      have hmin : min j ws.length = j := by omega
      have ht : ∀ g : W → AV, List.take j (List.map g ws) ++ [g w] = List.take (j + 1) (List.map g ws) := fun g => by rw [List.take_add_one, List.getElem?_map, hw]; rfl
      rw [hmin]
      exact ⟨rfl, by omega, by omega, Below.refl _, ⟨ht _, wrap_succ h (by omega)⟩, h, by omega⟩
    · rw [List.take_of_length_le (by simpa using h)]
      rcases shape ws hne with ⟨a, rfl⟩ | ⟨a, b, c, rfl⟩ | ⟨a, b, c, d, e, rfl⟩ | ⟨a, b, c, rfl⟩ | rfl | ⟨hcn, w, r, rfl, q1, q2, q3, q4⟩
      · have hwm1 := hwm a (by simp)
        have ha := unV_len a
        have hc : cand (sp 32 l) = some (.u (candU a)) := by rw [← hws]; rfl
        rw [hK]
        clear hK hwm
        simp [-thenK_normal, wUnit]
        repeat (simp only [thenK_normal]; simp [-thenK_normal, wUnit])
        refine Pur.call (Printable_p (Mp.e.add (.u (candU a))) (by simp [Mp.add, Mp.e]) (by simp [Mp.add, Mp.e]) (by simp [Mp.add, Mp.e])) ?_
        rw [e_ok]
        cases hok : (Ln.u (candU a)).ok with
        | false =>
          rw [oneV_no hc (by simp) (fun h => by rw [hok] at h; cases h)]
          simp [mpV, Mp.e]
        | true =>
          have hpr : (Mp.e.add (.u (candU a))).pr.length ≤ 100000 := by
            rw [e_pr (by simp)]
            have := lnw_u (n := 3000) hok (by show (unV a).1.length ≤ _; omega) (by simp [candU])
            simp [lnW, jn, wEnd, Ln.ws] at this ⊢
            omega
          simp
          refine Pur.call (rPrint_p (Mp.e.add (.u (candU a))) (by rw [e_ok]; exact hok) hpr) ?_
          simp [hL]
          refine ⟨fun hp => ?_, fun hp => ?_⟩
          · rw [oneV_no hc (by simp) (fun _ => hp)]
            simp [mpV, Mp.e]
          · rw [oneV_yes hc (by simp) hok hp]
            simp [mpV, Mp.e, Mp.add, Ln.ph, candU, candU3, candS, candT, uV, syV, slV]
      · have hwm1 := hwm a (by simp)
        have hwm2 := hwm b (by simp)
        have hwm3 := hwm c (by simp)
        have ha := unV_len a
        have hb := unV_len b
        have hn := rnumber_p c (by omega)
        by_cases hbe : (unV b).1 = []
        · rw [hK, oneV_none (by rw [← hws]; simp [cand, cU, hbe])]
          clear hK hwm
          simp [-thenK_normal, wUnit, hbe]
          repeat (simp only [thenK_normal]; simp [-thenK_normal, wUnit, hbe])
          rfl
        have hc : cand (sp 32 l) = some (.u (candU3 a b c)) := by rw [← hws]; simp [cand, cU, hbe]
        rw [hK]
        clear hK hwm
        simp [-thenK_normal, wUnit, hbe]
        repeat (simp only [thenK_normal]; simp [-thenK_normal, wUnit, hbe])
        refine Pur.d hn ?_
        simp [-thenK_normal, wUnit, hbe]
        repeat (simp only [thenK_normal]; simp [-thenK_normal, wUnit, hbe])
        refine Pur.call (Printable_p (Mp.e.add (.u (candU3 a b c))) (by simp [Mp.add, Mp.e]) (by simp [Mp.add, Mp.e]) (by simp [Mp.add, Mp.e])) ?_
        rw [e_ok]
        cases hok : (Ln.u (candU3 a b c)).ok with
        | false =>
          rw [oneV_no hc (by simp) (fun h => by rw [hok] at h; cases h)]
          simp [mpV, Mp.e]
        | true =>
          have hpr : (Mp.e.add (.u (candU3 a b c))).pr.length ≤ 100000 := by
            rw [e_pr (by simp)]
            have := lnw_u (n := 3000) hok (by show (unV a).1.length ≤ _; omega) (by show (unV b).1.length ≤ _; omega)
            simp [lnW, jn, wEnd, Ln.ws] at this ⊢
            omega
          simp
          refine Pur.call (rPrint_p (Mp.e.add (.u (candU3 a b c))) (by rw [e_ok]; exact hok) hpr) ?_
          simp [hL]
          refine ⟨fun hp => ?_, fun hp => ?_⟩
          · rw [oneV_no hc (by simp) (fun _ => hp)]
            simp [mpV, Mp.e]
          · rw [oneV_yes hc (by simp) hok hp]
            simp [mpV, Mp.e, Mp.add, Ln.ph, candU, candU3, candS, candT, uV, syV, slV]
      · have hwm1 := hwm a (by simp)
        have hwm2 := hwm b (by simp)
        have hwm3 := hwm c (by simp)
        have hwm4 := hwm d (by simp)
        have hwm5 := hwm e (by simp)
        have ha := unV_len a
        have hc : cand (sp 32 l) = some (.s (candS a b c d e)) := by rw [← hws]; rfl
        rw [hK]
        clear hK hwm
        simp [-thenK_normal, wSymbol]
        repeat (simp only [thenK_normal]; simp [-thenK_normal, wSymbol])
        refine gen_loop fun K hK => ?_
        refine loop_n hmE (by kernel_rfl) 6 (fun i => [(11, intV (rbu b (i + 1))), (12, intV (i + 1 : Nat))]) (fun i => i ≤ 5) (by simp; omega) (hσ2.alloc_log _ _) (by omega) (by simp; omega) (by simp [rbu_1]) fun i hi => ?_
        simp
        refine ⟨fun h5 => ?_, fun h5 => ?_⟩
        · have hb := rbinding_p ((i : Int) + 1)
          have hs := rbu_s b (i + 1) (by omega) (by omega)
          have hw : IntKind.i64.wrap ((i : Int) + 1 + 1) = (i : Int) + 1 + 1 := wrap64_id (by omega) (by omega)
          have hc1 : ((i + 1 : Nat) : Int) = (i : Int) + 1 := by omega
          rw [hc1] at hs
          refine Pur.d hb ?_
          simp [hw]
          refine ⟨fun e => ?_, fun e => ?_⟩
          · rw [if_pos e] at hs
            exact ⟨⟨hs.symm, by omega⟩, by omega, by omega⟩
          · rw [if_neg e] at hs
            exact ⟨⟨hs.symm, by omega⟩, by omega, by omega⟩
        · have hi5 : i = 5 := by omega
          subst hi5
          rw [hK]
          clear hK
          simp [-thenK_normal, wSymbol]
          repeat (simp only [thenK_normal]; simp [-thenK_normal, wSymbol])
          refine Pur.d (rnumber_p c (by omega)) ?_
          simp [-thenK_normal, wSymbol]
          repeat (simp only [thenK_normal]; simp [-thenK_normal, wSymbol])
          refine Pur.d (rnumber_p d (by omega)) ?_
          simp [-thenK_normal, wSymbol]
          repeat (simp only [thenK_normal]; simp [-thenK_normal, wSymbol])
          refine Pur.d (rnumber_p e (by omega)) ?_
          simp [-thenK_normal, wSymbol]
          repeat (simp only [thenK_normal]; simp [-thenK_normal, wSymbol])
          refine Pur.call (Printable_p (Mp.e.add (.s (candS a b c d e))) (by simp [Mp.add, Mp.e]) (by simp [Mp.add, Mp.e]) (by simp [Mp.add, Mp.e])) ?_
          rw [e_ok]
          cases hok : (Ln.s (candS a b c d e)).ok with
          | false =>
            rw [oneV_no hc (by simp) (fun h => by rw [hok] at h; cases h)]
            simp [mpV, Mp.e]
          | true =>
            have hpr : (Mp.e.add (.s (candS a b c d e))).pr.length ≤ 100000 := by
              rw [e_pr (by simp)]
              have := lnw_s (n := 3000) hok (by show (unV a).1.length ≤ _; omega)
              simp [lnW, jn, wEnd, Ln.ws] at this ⊢
              omega
            simp
            refine Pur.call (rPrint_p (Mp.e.add (.s (candS a b c d e))) (by rw [e_ok]; exact hok) hpr) ?_
            simp [hL]
            refine ⟨fun hp => ?_, fun hp => ?_⟩
            · rw [oneV_no hc (by simp) (fun _ => hp)]
              simp [mpV, Mp.e]
            · rw [oneV_yes hc (by simp) hok hp]
              simp [mpV, Mp.e, Mp.add, Ln.ph, candU, candU3, candS, candT, uV, syV, slV]
      · have hwm1 := hwm a (by simp)
        have hwm2 := hwm b (by simp)
        have hwm3 := hwm c (by simp)
        have ha := unV_len a
        have hc : cand (sp 32 l) = some (.t (candT a b c)) := by rw [← hws]; rfl
        rw [hK]
        clear hK hwm
        simp [-thenK_normal, wSlot]
        repeat (simp only [thenK_normal]; simp [-thenK_normal, wSlot])
        refine Pur.d (rnumber_p b (by omega)) ?_
        simp [-thenK_normal, wSlot]
        repeat (simp only [thenK_normal]; simp [-thenK_normal, wSlot])
        refine Pur.d (rnumber_p c (by omega)) ?_
        simp [-thenK_normal, wSlot]
        repeat (simp only [thenK_normal]; simp [-thenK_normal, wSlot])
        refine Pur.call (Printable_p (Mp.e.add (.t (candT a b c))) (by simp [Mp.add, Mp.e]) (by simp [Mp.add, Mp.e]) (by simp [Mp.add, Mp.e])) ?_
        rw [e_ok]
        cases hok : (Ln.t (candT a b c)).ok with
        | false =>
          rw [oneV_no hc (by simp) (fun h => by rw [hok] at h; cases h)]
          simp [mpV, Mp.e]
        | true =>
          have hpr : (Mp.e.add (.t (candT a b c))).pr.length ≤ 100000 := by
            rw [e_pr (by simp)]
            have := lnw_t (n := 3000) hok (by show (unV a).1.length ≤ _; omega)
            simp [lnW, jn, wEnd, Ln.ws] at this ⊢
            omega
          simp
          refine Pur.call (rPrint_p (Mp.e.add (.t (candT a b c))) (by rw [e_ok]; exact hok) hpr) ?_
          simp [hL]
          refine ⟨fun hp => ?_, fun hp => ?_⟩
          · rw [oneV_no hc (by simp) (fun _ => hp)]
            simp [mpV, Mp.e]
          · rw [oneV_yes hc (by simp) hok hp]
            simp [mpV, Mp.e, Mp.add, Ln.ph, candU, candU3, candS, candT, uV, syV, slV]
      · rw [hK, oneV_e hws.symm]
        clear hK hwm
        simp [-thenK_normal, wEnd]
        repeat (simp only [thenK_normal]; simp [-thenK_normal, wEnd])
        rfl
      · rw [hK, oneV_none (by rw [← hws]; exact hcn)]
        clear hK hwm
        by_cases h1 : w = wUnit
        · have f1 : ¬ ((r.length : Int) + 1 = 2) := by have := (q1 h1).1; omega
          have f2 : ¬ ((r.length : Int) + 1 = 4) := by have := (q1 h1).2; omega
          subst h1
          simp [-thenK_normal, wUnit, f1, f2]
          repeat (simp only [thenK_normal]; simp [-thenK_normal, wUnit, f1, f2])
          rfl
        have g1 : ¬ w = [117, 110, 105, 116] := h1
        by_cases h2 : w = wSymbol
        · have f1 : ¬ ((r.length : Int) + 1 = 6) := by have := q2 h2; omega
          subst h2
          simp [-thenK_normal, wSymbol, f1]
          repeat (simp only [thenK_normal]; simp [-thenK_normal, wSymbol, f1])
          rfl
        have g2 : ¬ w = [115, 121, 109, 98, 111, 108] := h2
        by_cases h3 : w = wSlot
        · have f1 : ¬ ((r.length : Int) + 1 = 4) := by have := q3 h3; omega
          subst h3
          simp [-thenK_normal, wSlot, f1]
          repeat (simp only [thenK_normal]; simp [-thenK_normal, wSlot, f1])
          rfl
        have g3 : ¬ w = [115, 108, 111, 116] := h3
        by_cases h4 : w = wEnd
        · have f1 : ¬ ((r.length : Int) + 1 = 1) := by have := q4 h4; omega
          have f2 : ¬ (r = []) := by intro e; exact q4 h4 (by rw [e]; rfl)
          subst h4
          simp [-thenK_normal, wEnd, f1, f2]
          repeat (simp only [thenK_normal]; simp [-thenK_normal, wEnd, f1, f2])
          rfl
        have g4 : ¬ w = [101, 110, 100] := h4
        simp [-thenK_normal, g1, g2, g3, g4]
        repeat (simp only [thenK_normal]; simp [-thenK_normal, g1, g2, g3, g4])
        rfl
end Go.Proofs.YtebjdgcnnonjoaaDoor
