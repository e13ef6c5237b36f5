/- Archives parsed by the program. No condition. -/
import Derived.Test.YtcjdagpadnahfaaGreatDoorP8
set_option linter.unusedVariables false
set_option linter.unusedSimpArgs false
set_option linter.unnecessarySimpa false
namespace Go.Proofs.YtcjdagpadnahfaaGreatDoor
open Go Go.AW
set_option maxRecDepth 100000
set_option maxHeartbeats 8000000

def addI (x : PS) (p : Nat × W) : PS := addX p.1 (nxtH p.2) (nxtD p.2) x
/-- The parts added one after the other, up to the first error. -/
def goI : List (Nat × W) → PS → PS × Nat × Int
  | [], x => (x, 0, 0)
  | p :: l, x => if nxtE p.2 ≠ 0 then (PS0, p.1, nxtE p.2) else if addE (nxtH p.2) (nxtD p.2) x ≠ 0 then (PS0, p.1, addE (nxtH p.2) (nxtD p.2) x) else goI l (addI x p)
theorem go_its : ∀ (k : Nat) (b : W) (a : Nat) (x : PS), go k b a x = goI (itsG k b a) x
  | 0, b, a, x => rfl
  | k + 1, b, a, x => by
    rw [go, itsG]
    by_cases hb : b = []
    · rw [if_pos hb, if_pos hb]; rfl
    · rw [if_neg hb, if_neg hb, goI]
      show (if nxtE b ≠ 0 then _ else _) = (if nxtE b ≠ 0 then _ else _)
      by_cases he : nxtE b ≠ 0
      · rw [if_pos he, if_pos he]
      · by_cases ha : addE (nxtH b) (nxtD b) x ≠ 0
        · rw [if_neg he, if_neg he, if_pos ha, if_pos ha]
        · rw [if_neg he, if_neg he, if_neg ha, if_neg ha, go_its k, if_neg he]; rfl
theorem prsG_its {b : W} (h : 8 ≤ b.length) (hm : b.take 8 = magic) : prsG b = goI (its b) PS0 := by
  rw [prsG, if_neg (by omega), if_neg (by simp [hm]), go_its, its]
  rw [itsG_fuel b.length (b.drop 8).length _ _ (by simp) (Nat.le_refl _)]
def xAt (b : W) (j : Nat) : PS := ((its b).take j).foldl addI PS0
theorem xAt_succ {b : W} {j : Nat} {p : Nat × W} (h : (its b)[j]? = some p) : xAt b (j + 1) = addI (xAt b j) p := by
  rw [xAt, List.take_add_one, h, Option.toList_some, List.foldl_append]; rfl
theorem itsG_len : ∀ (k : Nat) (b : W) (a : Nat), (itsG k b a).length ≤ b.length ∧ ∀ p ∈ itsG k b a, p.1 ≤ a + b.length ∧ p.2.length ≤ b.length
  | 0, b, a => by simp [itsG]
  | k + 1, b, a => by
    rw [itsG]
    split
    · simp
    · rename_i hne
      have hp := List.length_pos_iff.2 hne
      by_cases he : nxtE b = 0
      · obtain ⟨h1, h2⟩ := itsG_len k (b.drop (nxtN b)) (a + nxtN b)
        have hn := nxtN_pos he
        simp at h1
        rw [if_neg (by simp [he])]
        refine ⟨by simp; omega, fun p hp => ?_⟩
        rcases List.mem_cons.1 hp with rfl | hp
        · simp
        · have := h2 p hp
          simp at this
          omega
      · rw [if_pos he]; simp; omega
theorem its_fine (b : W) : (its b).length ≤ b.length ∧ ∀ p ∈ its b, p.1 ≤ 8 + b.length ∧ p.2.length ≤ b.length := by
  obtain ⟨h1, h2⟩ := itsG_len (b.drop 8).length (b.drop 8) 8
  simp at h1
  refine ⟨by unfold its; simp; omega, fun p hp => ?_⟩
  have := h2 p hp
  simp at this
  omega
def PS.ok (x : PS) (j : Nat) : Prop := x.mem.length ≤ j ∧ x.off.length ≤ j ∧ x.tab.length ≤ 900000 ∧ (x.ht = false → x.tab = []) ∧ (x.hm = false → x.mp = [])
theorem ok0 : PS0.ok 0 := ⟨Nat.le_refl _, Nat.le_refl _, by simp [PS0], fun _ => rfl, fun _ => rfl⟩
theorem ok_add {x : PS} {j : Nat} (h : x.ok j) (p : Nat × W) (hp : p.2.length ≤ 900000) : (addI x p).ok (j + 1) := by
  obtain ⟨h1, h2, h3, h4, h5⟩ := h
  have hd : (nxtD p.2).length ≤ 900000 := by unfold nxtD; split; · simp [cutP]; omega
                                             · simp
  unfold addI addX
  split
  · exact ⟨by simp; omega, by simp; omega, h3, h4, fun h => by cases h⟩
  · split
    · exact ⟨by simp; omega, by simp; omega, hd, (fun h => by cases h), h5⟩
    · exact ⟨by simp; omega, by simp; omega, h3, h4, h5⟩
def archV (x : PS) : AV := .agg [boolV x.hm, bytes x.mp, memsV x.mem, ints x.off]
attribute [simp] archV
def prsA (r : PS × Nat × Int) : AV := .tup [archV r.1, intV r.2.1, intV r.2.2]
attribute [simp] prsA
theorem Is_p (m : Int) (b : W) (hb : b.length ≤ 1000000000) : Pur (EM m) 52 [bytes b] (boolV (decide (b.take 8 = magic))) := by
  have hH := lift m (HasPrefix_p b magic)
  have h8 : magic.length = 8 := rfl
  rw [h8] at hH
  refine Pur.enter [] Tryz.func52 rfl Tryz.ntmps52 Tryz.results52 hmE (by kernel_rfl) (by simp) (by simp) fun σ hσ => ?_
  conv => arg 5; cbv
  simp
  simp [magic] at hH ⊢
  refine Pur.call hH ?_
  simp
theorem store_ext {s t : Store} (h1 : ∀ k, s.get k = t.get k) (h2 : s.next = t.next) : s = t := by
  cases s; cases t
  simp only at h1 h2
  have : ∀ k, _ = _ := h1
  simp only [Store.mk.injEq]
  exact ⟨funext h1, h2⟩
def stB (σ : Store) : Store := (((((σ.alloc (.arr 54 0 [.agg [boolV false, .nl, .nl, .nl]])).alloc (.arr 3 0 [intV 0])).alloc (.arr 30 0 [intV 0])).alloc (.arr 102 0 [.agg [boolV false, .nl, .nl, .nl, .nl, boolV false]])).alloc (.log 46 0)).alloc (.log 3 0)
@[simp] theorem stB_next (σ : Store) : (stB σ).next = σ.next + 6 := by simp [stB]
theorem stB_bel {σ : Store} (hσ : StoreBel σ) : StoreBel (stB σ) := by
  refine StoreBel.alloc_log (StoreBel.alloc_log (StoreBel.alloc_arr (StoreBel.alloc_arr (StoreBel.alloc_arr (StoreBel.alloc_arr hσ ?_) (by simp)) (by simp)) ?_) _ _) _ _
  all_goals
    intro e he x hx
    simp at he; subst he; simp [AV.cells] at hx
    rcases hx with rfl | rfl | rfl | rfl | rfl | rfl <;> first | exact .nl | exact .c _
theorem stB_get (σ : Store) (k : Nat) (hk : k < σ.next) : (stB σ).get k = σ.get k := by
  simp [stB, show ¬ k = σ.next by omega, show ¬ k = σ.next + 1 by omega, show ¬ k = σ.next + 2 by omega, show ¬ k = σ.next + 3 by omega, show ¬ k = σ.next + 4 by omega, show ¬ k = σ.next + 5 by omega]
def stP (σ : Store) (x : PS) : Store := stX (stB σ) (σ.next + 3) (σ.next + 4) (σ.next + 5) x
@[simp] theorem stP_next (σ : Store) (x : PS) : (stP σ x).next = σ.next + 6 := by simp [stP, stX_next]
@[simp] theorem stP_0 (σ : Store) (x : PS) : (stP σ x).get σ.next = some (.arr 54 0 [.agg [boolV false, .nl, .nl, .nl]]) := by
  rw [stP, stX_get, if_neg (by omega), if_neg (by omega), if_neg (by omega)]
  simp [stB, show ¬ σ.next = σ.next + 3 by omega, show ¬ σ.next = σ.next + 4 by omega, show ¬ σ.next = σ.next + 5 by omega, show ¬ σ.next = σ.next + 2 by omega]
@[simp] theorem stP_1 (σ : Store) (x : PS) : (stP σ x).get (σ.next + 1) = some (.arr 3 0 [intV 0]) := by
  rw [stP, stX_get, if_neg (by omega), if_neg (by omega), if_neg (by omega)]
  simp [stB]
@[simp] theorem stP_2 (σ : Store) (x : PS) : (stP σ x).get (σ.next + 2) = some (.arr 30 0 [intV 0]) := by
  rw [stP, stX_get, if_neg (by omega), if_neg (by omega), if_neg (by omega)]
  simp [stB]
theorem stP_3 (σ : Store) (x : PS) : (stP σ x).get (σ.next + 3) = some (pO (σ.next + 4) (σ.next + 5) x) := by rw [stP, stX_get, if_pos rfl]
theorem stP_4 (σ : Store) (x : PS) : (stP σ x).get (σ.next + 4) = some (.log 46 x.mem.length) := by rw [stP, stX_get, if_neg (by omega), if_neg (by omega), if_pos rfl]
theorem stP_5 (σ : Store) (x : PS) : (stP σ x).get (σ.next + 5) = some (.log 3 x.off.length) := by rw [stP, stX_get, if_neg (by omega), if_pos rfl]
theorem stP_bel {σ : Store} (hσ : StoreBel σ) (x : PS) : StoreBel (stP σ x) := stX_bel (stB_bel hσ) (by simp) (by simp) (by simp) x
theorem stP_below (σ : Store) (x : PS) : Below σ (stP σ x) := ⟨by simp, fun k hk => by rw [stP, stX_get, if_neg (by omega), if_neg (by omega), if_neg (by omega), stB_get σ k hk]⟩
theorem Parse4_p (m : Int) (b : W) (hb : b.length ≤ 800000) : Pur (EM m) 26 [bytes b] (prsA (prsG b)) := by
  refine Pur.enter [] Tryz.func26 rfl Tryz.ntmps26 Tryz.results26 hmE (by kernel_rfl) (by simp) (by simp) fun σ hσ => ?_
  conv => arg 5; cbv
  simp
  refine ⟨fun h => ?_, fun h => ?_⟩
  · have hp : prsG b = (PS0, 0, 2) := by rw [prsG, if_pos (by omega)]
    simp [hp, PS0]
  have hI := Is_p m b (by omega)
  simp at hI
  refine Pur.call hI ?_
  by_cases hm : b.take 8 = magic
  · simp [hm]
    have hL := parts_p m b
    simp [partsF] at hL
    refine Pur.call hL ?_
    simp
    have hg := prsG_its (by omega) hm
    obtain ⟨l1, l2⟩ := its_fine b
    refine rangeW.adopt1 (p := σ.next + 3) (T := 102) (k := 0) (cs := [boolV false, .nl, .nl, .nl, .nl, boolV false]) (cs' := [boolV false, .nl, .lg (σ.next + 4) [], .nl, .nl, boolV false]) 46 (by simp) (by simp [cellsAs]) ?_
    refine rangeW.adopt1 (p := σ.next + 3) (T := 102) (k := 0) (cs := [boolV false, .nl, .lg (σ.next + 4) [], .nl, .nl, boolV false]) (cs' := [boolV false, .nl, .lg (σ.next + 4) [], .lg (σ.next + 5) [], .nl, boolV false]) 3 (by simp) (by simp [cellsAs]) ?_
    refine range_itP (hmM m) (by kernel_rfl) (by kernel_rfl) (by kernel_rfl) (by kernel_rfl) (EM_pan m) (parts_it m b (by omega) (by omega)) (by kernel_rfl) (by kernel_rfl) (by simp) (by intro x hx; obtain ⟨p, _, rfl⟩ := List.mem_map.1 hx; rfl) (fun j => stP σ (xAt b j)) (fun j => prsG b = goI ((its b).drop j) (xAt b j) ∧ (xAt b j).ok j) ⟨hg, ok0⟩ ?_ ?_ ?_ ?_ ?_
    · refine store_ext (fun k => ?_) (by simp)
      have hx0 : xAt b 0 = PS0 := rfl
      rw [stP, stX_get, hx0]
      by_cases g1 : k = σ.next + 3
      · subst g1; simp [pO, mpC, tbC, PS0]
      · by_cases g2 : k = σ.next + 5
        · subst g2; simp [PS0]
        · by_cases g3 : k = σ.next + 4
          · subst g3; simp [PS0]
          · simp [stB, g1, g2, g3]
    · intro j; simp
    · intro hb j hj; exact stP_bel hσ _
    · intro j args X Y hj ⟨hP, hok⟩
      obtain ⟨p, hp, rfl⟩ := Option.map_eq_some_iff.1 (by rw [List.getElem?_map] at hj; exact hj)
      have hjl := (List.getElem?_eq_some_iff.1 hp)
      have hpl := l2 p (List.mem_of_getElem? hp)
      have hdr : (its b).drop j = p :: (its b).drop (j + 1) := by rw [List.drop_eq_getElem_cons hjl.1, hjl.2]
      have hok' := hok
      obtain ⟨o1, o2, o3, o4, o5⟩ := hok'
      have hsucc := xAt_succ hp
      have hjlt := hjl.1
      have hA0 : (xAt b j).fine := ⟨by omega, by omega, o3, o4⟩
      rw [hdr, goI] at hP
      generalize hx : xAt b j = x at *
      have m1 : ¬ σ.next = σ.next + 5 + 2 := by omega
      have m2 : ¬ σ.next + 1 = σ.next + 5 + 2 := by omega
      have m3 : ¬ σ.next + 2 = σ.next + 5 + 2 := by omega
      have errQ : ∀ (e : Int) (s : Store), prsG b = (PS0, p.1, e) → s = (((stP σ x).set σ.next (.arr 54 0 [.agg [boolV false, .nl, .nl, .nl]])).set (σ.next + 1) (.arr 3 0 [intV p.1])).set (σ.next + 2) (.arr 30 0 [intV e]) → StoreBel s := by
        rintro e s _ rfl
        exact StoreBel.set_obj (StoreBel.set_obj (StoreBel.set_obj (stP_bel hσ x) (by simp; try omega) (by intro e he x hx; simp at he; subst he; simp [AV.cells] at hx; rcases hx with rfl | rfl | rfl | rfl <;> first | exact .nl | exact .c _)) (by simp; try omega) (by intro e he x hx; simp at he; subst he; simp [AV.cells] at hx; subst hx; exact .c _)) (by simp; try omega) (by intro e he x hx; simp at he; subst he; simp [AV.cells] at hx; subst hx; exact .c _)
      by_cases h0 : nxtE p.2 = 0
      · have hA := add_c m x hA0 (σ.next + 3) (σ.next + 4) (σ.next + 5) p.1 p.2 (by omega) h0
        simp at hA
        simp [itemP, m1, m2, m3, h0]
        simp [h0] at hA
        refine (hA _ ⟨by simp [stP_3], by simp [stP_4], by simp [stP_5], by omega, by omega, by omega⟩).mono ?_
        rintro r s ⟨rfl, rfl⟩
        rw [if_neg (by simp [h0])] at hP
        by_cases hE : addE (nxtH p.2) (nxtD p.2) x = 0
        · rw [if_neg (by simp [hE])] at hP
          simp [hE]
          rw [hsucc]
          refine ⟨⟨by simp [stX_next], fun k hk => ?_⟩, hP, ok_add hok p (by omega)⟩
          simp at hk
          have hk7 : ¬ k = σ.next + 5 + 2 := by omega
          rw [stX_get]
          by_cases g1 : k = σ.next + 3
          · subst g1; simp [stP_3, addI]
          · by_cases g2 : k = σ.next + 5
            · subst g2; simp [stP_5, addI]
            · by_cases g3 : k = σ.next + 4
              · subst g3; simp [stP_4, addI]
              · by_cases g4 : k = σ.next + 6
                · subst g4; simp
                · simp [g1, g2, g3, g4, hk7, stP, stX_get, stX_next]
        · rw [if_pos hE] at hP
          simp [hE, m1, m2, m3]
          refine ⟨(((stP σ x).set σ.next (.arr 54 0 [.agg [boolV false, .nl, .nl, .nl]])).set (σ.next + 1) (.arr 3 0 [intV p.1])).set (σ.next + 2) (.arr 30 0 [intV (addE (nxtH p.2) (nxtD p.2) x)]), by simp, errQ _ _ hP rfl, ⟨by simp, fun k hk => ?_⟩, fun Z => ?_⟩
          · simp at hk
            have hk7 : ¬ k = σ.next + 5 + 2 := by omega
            by_cases g1 : k = σ.next + 2
            · subst g1; simp
            · by_cases g2 : k = σ.next + 1
              · subst g2; simp
              · by_cases g3 : k = σ.next
                · subst g3; simp [show ¬ σ.next = σ.next + 6 by omega, show ¬ σ.next = σ.next + 2 by omega]
                · by_cases g4 : k = σ.next + 6
                  · subst g4; simp
                  · simp [g1, g2, g3, g4, hk7]
          · simp [hP, PS0, show ¬ σ.next = σ.next + 6 by omega, show ¬ σ.next = σ.next + 2 by omega, stP_below]
      · rw [if_pos h0] at hP
        simp [itemP, m1, m2, m3, h0]
        refine ⟨(((stP σ x).set σ.next (.arr 54 0 [.agg [boolV false, .nl, .nl, .nl]])).set (σ.next + 1) (.arr 3 0 [intV p.1])).set (σ.next + 2) (.arr 30 0 [intV (nxtE p.2)]), by simp, errQ _ _ hP rfl, ⟨by simp, fun k hk => ?_⟩, fun Z => ?_⟩
        · simp at hk
          have hk7 : ¬ k = σ.next + 5 + 2 := by omega
          by_cases g1 : k = σ.next + 2
          · subst g1; simp
          · by_cases g2 : k = σ.next + 1
            · subst g2; simp
            · by_cases g3 : k = σ.next
              · subst g3; simp [show ¬ σ.next = σ.next + 6 by omega, show ¬ σ.next = σ.next + 2 by omega]
              · by_cases g4 : k = σ.next + 6
                · subst g4; simp
                · simp [g1, g2, g3, g4, hk7]
        · simp [hP, PS0, show ¬ σ.next = σ.next + 6 by omega, show ¬ σ.next = σ.next + 2 by omega, stP_below]
    · intro ⟨hP, hok⟩ Z
      have hlm : (List.map itemP (its b)).length = (its b).length := by simp
      rw [hlm] at hP hok ⊢
      rw [List.drop_length] at hP
      simp only [goI] at hP
      generalize xAt b (its b).length = x at *
      obtain ⟨o1, o2, o3, o4, o5⟩ := hok
      simp [hP, show ¬ σ.next = σ.next + 6 by omega, show ¬ σ.next = σ.next + 2 by omega, stP_3, pO]
      refine ⟨?_, stP_below σ x⟩
      unfold mpC
      cases h : x.hm with
      | true => simp
      | false => simp [o5 h]
  · have hp : prsG b = (PS0, 0, 1) := by rw [prsG, if_neg (by omega), if_pos (by simpa using hm)]
    simp [hm, hp, PS0]
end Go.Proofs.YtcjdagpadnahfaaGreatDoor
