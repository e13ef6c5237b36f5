/- What parsing answers, frozen; the parser of the reference implementation. No condition. -/
import Derived.Test.YtoipkcljmlfobaaDoorC2
set_option linter.unusedVariables false
set_option linter.unusedSimpArgs false
namespace Go.Proofs.YtoipkcljmlfobaaDoor
open Go Go.AW
set_option maxRecDepth 100000
set_option maxHeartbeats 8000000

def itemV (it : Item) : AV := .agg [.c (.bool it.1), strs it.2.1, ints it.2.2]
def itemsV (l : List Item) : AV := .ps (l.map itemV)
attribute [simp] itemsV

theorem none_next {σ : Store} (h : StoreBel σ) {i : Nat} (hi : σ.next ≤ i) : σ.get i = none := by
  cases h1 : σ.get i with
  | none => rfl
  | some o => exact absurd (h _ _ h1).1 (by omega)

theorem bel_strs (m : Nat) (l : List W) : Bel m (strs l) := by simp
theorem bel_ints (m : Nat) (l : List Int) : Bel m (ints l) := by simp
theorem bel_itemV (m : Nat) (it : Item) : Bel m (itemV it) := by simp [itemV]
theorem bel_itemsV (m : Nat) (l : List Item) : Bel m (itemsV l) := by
  simp only [itemsV, bel_ps, List.mem_map]
  rintro a ⟨it, _, rfl⟩; exact bel_itemV m it

theorem sr_row {σ σ2 : Store} {lo hi : Nat} {T : TypeId} {x : AV} {l : List AV} (h : Row lo hi σ T x l) (h2 : ∀ j, lo ≤ j → σ2.get j = none) : SR σ σ2 x (.ps l) := by
  rcases h with ⟨rfl, rfl⟩ | ⟨j, g, rfl, h1, _, h3⟩
  · exact .nl
  · exact SR.row h3 (h2 j h1) (by simp) (by simp)

theorem ItemsOk.get {lo hi : Nat} {σ : Store} : ∀ {es : List AV} {its : List Item}, ItemsOk lo hi σ es its → ∀ (k : Nat) (e : AV) (it : Item), es[k]? = some e → its[k]? = some it → ItemOk lo hi σ e it
  | [], [], _, k, e, it, h1, _ => by simp at h1
  | _ :: _, _ :: _, h, 0, e, it, h1, h2 => by cases h1; cases h2; exact h.1
  | _ :: _, _ :: _, h, k + 1, e, it, h1, h2 => ItemsOk.get h.2 k e it (by simpa using h1) (by simpa using h2)

theorem sr_items {n : Nat} {σ σ2 : Store} {x : AV} {its : List Item} (h : Items n σ x its) (h2 : ∀ j, n ≤ j → σ2.get j = none) : SR σ σ2 x (itemsV its) := by
  rcases h with ⟨rfl, rfl⟩ | ⟨o, g, es, rfl, h1, h3, h4, hits⟩
  · exact .nl
  · have hl := hits.length
    have hpick : ∀ (k : Nat) (a b : AV), es[0 + k]? = some a → (its.map itemV)[k]? = some b → ∃ it, b = itemV it ∧ ItemOk (n + 2) σ.next σ a it := by
      intro k a b ha hb
      rw [Nat.zero_add] at ha
      rw [List.getElem?_map, Option.map_eq_some_iff] at hb
      obtain ⟨it, hit, rfl⟩ := hb
      exact ⟨it, rfl, hits.get k a it ha hit⟩
    refine .rs o g 0 es.length 36 es (its.map itemV) h4 (h2 o h1) (by simp) (by simp [hl]) ?_ ?_
    · intro k a b ha hb
      obtain ⟨it, rfl, fx, ax, rfl, _⟩ := hpick k a b ha hb
      rfl
    · intro k a b j u v ha hb hu hv
      obtain ⟨it, rfl, fx, ax, rfl, hf, hx⟩ := hpick k a b ha hb
      match j, hu, hv with
      | 0, hu, hv => cases hu; cases hv; exact .refl _
      | 1, hu, hv => cases hu; cases hv; exact sr_row hf fun j hj => h2 j (by omega)
      | 2, hu, hv =>
        cases hu; cases hv
        rcases hx with hx | rfl
        · exact sr_row hx fun j hj => h2 j (by omega)
        · exact .refl _

theorem fin_tup {σ s1 : Store} (hσ : StoreBel σ) (hle : σ.next ≤ s1.next) (hsame : ∀ j, j < σ.next → s1.get j = σ.get j) {x y : AV} {a b : Value} {Q : AV → Store → Prop} (hs : SR s1 σ x y) (hy : Bel σ.next y) (h : Q (.tup [y, .c a, .c b]) σ) : Fin σ.next s1 (.tup [x, .c a, .c b]) Q := by
  refine Fin.back (a' := .tup [y, .c a, .c b]) hσ hle (fun i o ho => by rw [hsame i (hσ i o ho).1]; exact ho) (.tup _ _ rfl ?_) (by simp [hy]) h
  intro j u v hu hv
  match j, hu, hv with
  | 0, hu, hv => cases hu; cases hv; exact hs
  | 1, hu, hv => cases hu; cases hv; exact .refl _
  | 2, hu, hv => cases hu; cases hv; exact .refl _

theorem Parse_c (ws : List W) (hl : ws.length ≤ 1000) (σ : Store) : ACalls E 9 [strs ws] σ fun r σ' =>
    r = .tup [itemsV (pres ws).1, .c (.int .i64 (pres ws).2.1), .c (.int .i64 (pres ws).2.2)] ∧ σ' = σ := by
  refine (Parse_own ws hl σ).fin ?_
  rintro hσ a σ' ⟨⟨x, rfl, hx⟩, hle, hsame⟩
  exact fin_tup hσ hle hsame (sr_items hx fun j hj => none_next hσ hj) (bel_itemsV _ _) ⟨rfl, rfl⟩

theorem kind_cases (w : W) : (kindN w = 1 ∧ isB w = true ∧ w ≠ []) ∨ (kindN w = 2 ∧ isB w = false ∧ isE w = true ∧ w ≠ []) ∨ (kindN w = 3 ∧ w = []) ∨ (kindN w = 0 ∧ isB w = false ∧ isE w = false ∧ w ≠ []) := by
  unfold kindN
  by_cases h0 : w = []
  · subst h0; exact .inr (.inr (.inl ⟨by decide, rfl⟩))
  · cases h1 : isB w <;> cases h2 : isE w <;> simp [h0]
/-- The store without two of its objects. -/
def Store.drop2 (σ : Store) (i j : Nat) : Store := ⟨fun k => if k = i ∨ k = j then none else σ.get k, σ.next⟩
@[simp] theorem drop2_get (σ : Store) (i j k : Nat) : (Store.drop2 σ i j).get k = if k = i ∨ k = j then none else σ.get k := rfl
@[simp] theorem drop2_next (σ : Store) (i j : Nat) : (Store.drop2 σ i j).next = σ.next := rfl

theorem bel_strs' (m : Nat) (l : List W) : Bel m (.ps (l.map str)) := bel_strs m l

/-- Within a group of the reference's parser. -/
def RInv (ws : List W) (σ : Store) (q x : Nat) (out : List Item) (go : Nat) (y : Nat) (fs : List W) (ns : List Int) (s2 : Store) : Prop :=
  ∃ fx ax, x < y ∧ y ≤ ws.length ∧ fs.length ≤ y ∧ ns.length ≤ y ∧ q < s2.next ∧ (∀ j, j < σ.next → s2.get j = σ.get j) ∧ s2.get σ.next = some (.arr 39 go (out.map itemV)) ∧
    s2.get q = some (.arr 39 0 [.agg [.c (.bool true), fx, ax]]) ∧ Open (q + 1) s2 fx ax fs ns ∧ prun (ws.drop y) y out (some (x, fs, ns)) = pres ws

theorem prun_cons (w : W) (l : List W) (i : Int) (out : List Item) (st : St) : prun (w :: l) i out st = if w = [] then ([], i, 13) else if (pstep out st w i).1 = 0 then prun l (i + 1) (pstep out st w i).2.1 (pstep out st w i).2.2 else ([], i, (pstep out st w i).1) := by
  rw [prun]

theorem rParse_c (ws : List W) (hl : ws.length ≤ 1000) (σ : Store) : ACalls E 13 [strs ws] σ fun r σ' =>
    r = .tup [itemsV (pres ws).1, .c (.int .i64 (pres ws).2.1), .c (.int .i64 (pres ws).2.2)] ∧ σ' = σ := by
  refine ACalls.enter Tryd.func13 rfl Tryd.ntmps13 Tryd.results13 (by simp) fun hσ => ?_
  refine AW.stepL [] [0] fun K hK => ?_
  simp
  refine hK _ _ ?_; clear hK
  refine AW.stepL [] [0, 5] fun K hK => ?_
  simp
  refine hK _ _ ?_; clear hK
  refine AW.stepL [] [0, 5, 6] fun K hK => ?_
  simp
  refine hK _ _ ?_; clear hK
  refine AW.adopt 5 39 (by simp) (by simp) ?_
  refine AW.only [(0, strs ws), (5, .rs σ.next 0 0 0), (6, .c (.int .i64 0))] (by simp) (by simp [Knows]) ?_
  refine AW.seqL [5] fun K1 hK1 => ?_
  refine AW.block ?_
  have err : ∀ (s1 : Store) (i e : Int), σ.next < s1.next → (∀ j, j < σ.next → s1.get j = σ.get j) → pres ws = ([], i, e) → Fin σ.next s1 (.tup [.nl, .c (.int .i64 i), .c (.int .i64 e)]) fun r σ' =>
      r = .tup [itemsV (pres ws).1, .c (.int .i64 (pres ws).2.1), .c (.int .i64 (pres ws).2.2)] ∧ σ' = σ := by
    intro s1 i e h1 h2 h3
    exact fin_tup hσ (by omega) h2 .nl (by simp) ⟨by rw [h3]; simp, rfl⟩
  refine AW.loopS (ι := Nat × List Item × Nat × Store) (fun x => [(0, strs ws), (5, .rs σ.next x.2.2.1 0 x.2.1.length), (6, .c (.int .i64 x.1))]) (fun x => x.2.2.2)
    (fun x => x.1 ≤ ws.length ∧ x.2.1.length ≤ x.1 ∧ σ.next < x.2.2.2.next ∧ (∀ j, j < σ.next → x.2.2.2.get j = σ.get j) ∧ x.2.2.2.get σ.next = some (.arr 39 x.2.2.1 (x.2.1.map itemV)) ∧ prun (ws.drop x.1) x.1 x.2.1 none = pres ws) (fun x => ws.length - x.1) (0, [], 0, _)
    (fun x hx => by have := hx.2.2.1; omega) ⟨Nat.zero_le _, Nat.le_refl _, by simp, fun j hj => by simp [show j ≠ σ.next by omega], by simp, rfl⟩ rfl (by simp [Knows]) ?_
  rintro ⟨x, out, go, s1⟩ ⟨hx, hol, hnx, hsame, hO, hrun⟩
  simp only at hx hol hnx hsame hO hrun ⊢
  refine AW.seqL [0, 5, 6] fun K2 hK2 => ?_
  refine AW.stepL [] [0, 5, 6, 13] fun K hK => ?_
  simp
  refine hK _ _ ?_; clear hK
  refine AW.cond (hb := by simp; rfl) (fun hb => ?_) (fun hb => ?_)
  · simp at hb
    have hlt : (x : Int) < ws.length := by omega
    obtain ⟨w, hw⟩ := get_ex hb
    have hdrop : ws.drop x = w :: ws.drop (x + 1) := by
      rw [List.drop_eq_getElem_cons hb]
      congr 1
      rw [List.getElem?_eq_getElem hb] at hw
      exact Option.some.inj hw
    rw [hdrop, prun_cons] at hrun
    have hw1 : IntKind.i64.wrap ((x : Int) + 1) = (x : Int) + 1 := wrap64_id (by omega) (by omega)
    refine AW.skip ?_
    simp
    refine hK2 _ _ ?_; clear hK2
    refine AW.block ?_
    refine AW.stepL [] [0, 5, 6, 7] fun K hK => ?_
    simp [hw]
    refine (kind_c w s1).mono ?_
    rintro r s1' ⟨rfl, rfl⟩
    simp
    refine hK _ _ ?_; clear hK
    refine AW.seqL [0, 5, 6, 7] fun K3 hK3 => ?_
    refine AW.stepL [] [0, 5, 6, 7, 20] fun K hK => ?_
    rcases kind_cases w with ⟨hk, hB, hne⟩ | ⟨hk, hB, hE, hne⟩ | ⟨hk, hne⟩ | ⟨hk, hB, hE, hne⟩
    · -- a group
      simp only [if_neg hne, pstep, hB, if_true] at hrun
      simp [hk]
      refine hK _ _ ?_; clear hK
      refine AW.cond (b := false) (hb := by simp) (fun h => nomatch h) (fun _ => ?_)
      refine AW.skip ?_
      simp
      refine hK3 _ _ ?_; clear hK3
      refine AW.seqL [0, 5, 6, 7] fun K4 hK4 => ?_
      refine AW.stepL [] [0, 5, 6, 7, 23] fun K hK => ?_
      simp
      refine hK _ _ ?_; clear hK
      refine AW.cond (b := false) (hb := by simp) (fun h => nomatch h) (fun _ => ?_)
      refine AW.skip ?_
      simp
      refine hK4 _ _ ?_; clear hK4
      refine AW.seqL [0, 5, 6] fun K5 hK5 => ?_
      refine AW.stepL [] [0, 5, 6, 26] fun K hK => ?_
      simp
      refine hK _ _ ?_; clear hK
      refine AW.cond (b := false) (hb := by simp) (fun h => nomatch h) (fun _ => ?_)
      refine AW.skip ?_
      simp
      refine hK5 _ _ ?_; clear hK5
      refine AW.stepL [] [0, 5, 6, 8] fun K hK => ?_
      simp
      refine hK _ _ ?_; clear hK
      refine AW.stepL [] [0, 5, 6, 8, 9] fun K hK => ?_
      simp
      refine hK _ _ ?_; clear hK
      refine AW.stepL [] [0, 5, 6, 8, 9] fun K hK => ?_
      simp [hw1]
      refine hK _ _ ?_; clear hK
      refine AW.seqL [0, 5, 6, 8, 9] fun K6 hK6 => ?_
      refine AW.block ?_
      have post : ∀ (y : Nat) (fs : List W) (ns : List Int) (s2 : Store) (fx ax : AV), x < y → y ≤ ws.length → fs.length ≤ y → ns.length ≤ y → s1'.next < s2.next → (∀ j, j < σ.next → s2.get j = σ.get j) → s2.get σ.next = some (.arr 39 go (out.map itemV)) →
          s2.get s1'.next = some (.arr 39 0 [.agg [.c (.bool true), fx, ax]]) → Open (s1'.next + 1) s2 fx ax fs ns → prun (ws.drop y) y out (some (x, fs, ns)) = pres ws → (∀ w, ws[y]? = some w → kindN w ≠ 0) →
          K6 [(0, strs ws), (5, .rs σ.next go 0 out.length), (6, .c (.int .i64 y)), (8, .rp s1'.next 0 0 0), (9, .c (.int .i64 x))] s2 := by
        intro y fs ns s2 fx ax hxy hy hfs hns hq hsame2 hO2 hQ hop hrun2 hstop
        refine hK6 _ _ ?_; clear hK6
        refine AW.seqL [0, 5, 6, 8] fun K8 hK8 => ?_
        refine AW.stepL [] [0, 5, 6, 8, 9, 76] fun K hK => ?_
        by_cases hyl : y = ws.length
        · rw [hyl, List.drop_length, prun] at hrun2
          simp [hyl]
          refine hK _ _ ?_; clear hK
          refine AW.cond (b := true) (hb := by simp) (fun _ => ?_) (fun h => nomatch h)
          refine AW.stepL [] [2, 3, 4] fun K hK => ?_
          simp
          refine hK _ _ ?_; clear hK
          refine AW.ret ?_
          simp
          exact err _ _ _ (by omega) hsame2 hrun2.symm
        · have hyl' : y < ws.length := by omega
          have hltI : (y : Int) < ws.length := by omega
          have hneI : ¬ (y : Int) = ws.length := by omega
          obtain ⟨v, hv⟩ := get_ex hyl'
          have hdrop2 : ws.drop y = v :: ws.drop (y + 1) := by
            rw [List.drop_eq_getElem_cons hyl']
            congr 1
            rw [List.getElem?_eq_getElem hyl'] at hv
            exact Option.some.inj hv
          have hw2 : IntKind.i64.wrap ((y : Int) + 1) = (y : Int) + 1 := wrap64_id (by omega) (by omega)
          rw [hdrop2, prun_cons] at hrun2
          have hbeq : ((y : Int) == (ws.length : Int)) = false := by simpa using hneI
          simp [hyl, hneI, hbeq]
          refine hK _ _ ?_; clear hK
          refine AW.cond (b := false) (hb := by simp) (fun h => nomatch h) (fun _ => ?_)
          refine AW.skip ?_
          simp
          refine hK8 _ _ ?_; clear hK8
          refine AW.seqL [0, 5, 6, 8] fun K9 hK9 => ?_
          refine AW.stepL [] [0, 5, 6, 8, 83] fun K hK => ?_
          simp [hv]
          refine (kind_c v s2).mono ?_
          rintro r s2' ⟨rfl, rfl⟩
          rcases kind_cases v with ⟨hk2, hB2, hne2⟩ | ⟨hk2, hB2, hE2, hne2⟩ | ⟨hk2, hne2⟩ | ⟨hk2, _⟩
          · simp only [if_neg hne2, pstep, hB2, if_true, reduceCtorEq, if_false] at hrun2
            simp [hk2]
            refine hK _ _ ?_; clear hK
            refine AW.cond (b := false) (hb := by simp) (fun h => nomatch h) (fun _ => ?_)
            refine AW.skip ?_
            simp
            refine hK9 _ _ ?_; clear hK9
            refine AW.seqL [0, 5, 6, 8] fun K10 hK10 => ?_
            refine AW.stepL [] [0, 5, 6, 8, 90] fun K hK => ?_
            simp [hv]
            refine (kind_c v s2').mono ?_
            rintro r s2 ⟨rfl, rfl⟩
            simp [hk2]
            refine hK _ _ ?_; clear hK
            refine AW.cond (b := true) (hb := by simp) (fun _ => ?_) (fun h => nomatch h)
            refine AW.stepL [] [2, 3, 4] fun K hK => ?_
            simp
            refine hK _ _ ?_; clear hK
            refine AW.ret ?_
            simp
            exact err _ _ _ (by omega) hsame2 (by rw [← hrun2]; simp)
          · simp only [if_neg hne2, pstep, hB2, hE2, if_true, if_false, Bool.false_eq_true] at hrun2
            simp [hk2]
            refine hK _ _ ?_; clear hK
            refine AW.cond (b := false) (hb := by simp) (fun h => nomatch h) (fun _ => ?_)
            refine AW.skip ?_
            simp
            refine hK9 _ _ ?_; clear hK9
            refine AW.seqL [0, 5, 6, 8] fun K10 hK10 => ?_
            refine AW.stepL [] [0, 5, 6, 8, 90] fun K hK => ?_
            simp [hv]
            refine (kind_c v s2').mono ?_
            rintro r s2 ⟨rfl, rfl⟩
            simp [hk2]
            refine hK _ _ ?_; clear hK
            refine AW.cond (b := false) (hb := by simp) (fun h => nomatch h) (fun _ => ?_)
            refine AW.skip ?_
            simp
            refine hK10 _ _ ?_; clear hK10
            have hseal : ∃ s3 : Store, Store.sub s3 s2 ∧ s3.get s1'.next = s2.get s1'.next ∧ s3.get σ.next = s2.get σ.next ∧ (∀ j, j < σ.next → s3.get j = s2.get j) ∧ SR s2 s3 fx (strs fs) ∧ SR s2 s3 ax (ints ns) := by
              rcases hop with ⟨rfl, rfl, rfl, rfl⟩ | ⟨jf, gf, ja, ga, rfl, rfl, h1, h2, h3, h4, h5, h6, h7⟩
              · exact ⟨s2, ⟨rfl, fun _ _ h => h⟩, rfl, rfl, fun _ _ => rfl, .nl, .nl⟩
              · refine ⟨Store.drop2 s2 jf ja, ⟨rfl, fun i o h => ?_⟩, ?_, ?_, fun j hj => ?_, ?_, ?_⟩
                · simp at h; exact h.2
                · simp [show s1'.next ≠ jf by omega, show s1'.next ≠ ja by omega]
                · simp [show σ.next ≠ jf by omega, show σ.next ≠ ja by omega]
                · simp [show j ≠ jf by omega, show j ≠ ja by omega]
                · exact SR.row h6 (by simp) (by simp) (by simp)
                · exact SR.row h7 (by simp) (by simp) (by simp)
            obtain ⟨s3, b1, b2, b3, b4, b5, b6⟩ := hseal
            have hn3 : s3.next = s2.next := b1.1
            have hqn : ¬ σ.next = s1'.next := by omega
            refine AW.sealCell (fr [(0, strs ws), (5, .rs σ.next go 0 out.length), (6, .c (.int .i64 y)), (8, .rp s1'.next 0 0 0)]) s3 (p := s1'.next) (T := 39) (g := 0) (es := [.agg [.c (.bool true), fx, ax]]) (es' := [itemV (true, fs, ns)]) b1 (by rw [b2]; exact hQ) rfl ?_ ?_ ?_ ?_ ?_
            · intro k e e' h1 h2
              cases k with
              | zero => cases h1; cases h2; rfl
              | succ k => simp at h1
            · intro k e e' j u v h1 h2 h3 h4
              cases k with
              | succ k => simp at h1
              | zero =>
                cases h1; cases h2
                match j, h3, h4 with
                | 0, h3, h4 => cases h3; cases h4; exact .refl _
                | 1, h3, h4 => cases h3; cases h4; exact b5
                | 2, h3, h4 => cases h3; cases h4; exact b6
            · intro t _; simp; exact .refl _
            · intro t ht
              rcases fr_cases [(0, strs ws), (5, .rs σ.next go 0 out.length), (6, .c (.int .i64 y)), (8, .rp s1'.next 0 0 0)] t with h | ⟨p, h1, h2, h3⟩
              · exact h
              · simp only [List.mem_cons, List.not_mem_nil, or_false] at h1
                rcases h1 with rfl | rfl | rfl | rfl <;> simp only at h2 <;> omega
            refine AW.stepL [] [0, 5, 6] fun K hK => ?_
            simp [itemV, b3, hO2, hqn]
            refine ⟨by omega, by simp [maxLen]; omega, ?_⟩
            refine hK _ _ ?_; clear hK
            refine AW.region (ow := []) ?_
            simp [hw2]
            refine ⟨y + 1, out ++ [(true, fs, ns)], go + 1, _, ⟨by omega, by simp; omega, by simp [hn3]; omega, fun j hj => ?_, by simp [itemV], ?_⟩, rfl, by simp [Knows], by omega⟩
            · simp [show j ≠ σ.next by omega, show j ≠ s1'.next by omega, b4 j hj]
              exact hsame2 j hj
            · simpa using hrun2
          · simp only [if_pos hne2] at hrun2
            simp [hk2]
            refine hK _ _ ?_; clear hK
            refine AW.cond (b := true) (hb := by simp) (fun _ => ?_) (fun h => nomatch h)
            refine AW.stepL [] [2, 3, 4] fun K hK => ?_
            simp
            refine hK _ _ ?_; clear hK
            refine AW.ret ?_
            simp
            exact err _ _ _ (by omega) hsame2 hrun2.symm
          · exact absurd hk2 (hstop v hv)
      clear hK6
      have hqn : ¬ s1'.next = σ.next := by omega
      have hqn' : ¬ σ.next = s1'.next := by omega
      refine AW.loopS (ι := Nat × List W × List Int × Store) (fun z => [(0, strs ws), (5, .rs σ.next go 0 out.length), (6, .c (.int .i64 z.1)), (8, .rp s1'.next 0 0 0), (9, .c (.int .i64 x))]) (fun z => z.2.2.2)
        (fun z => RInv ws σ s1'.next x out go z.1 z.2.1 z.2.2.1 z.2.2.2) (fun z => ws.length - z.1) (x + 1, [], [], _)
        (fun z hz => by obtain ⟨_, _, _, _, _, _, h, _⟩ := hz; omega) ⟨.nl, .nl, by simp, by show x + 1 ≤ _; omega, by simp, by simp, by simp, fun j hj => by simp [show j ≠ s1'.next by omega]; exact hsame j hj, by simp [hqn', hO], by simp, .inl ⟨rfl, rfl, rfl, rfl⟩, by simpa using hrun⟩ rfl (by simp [Knows]) ?_
      rintro ⟨y, fs, ns, s2⟩ ⟨fx, ax, hxy, hy, hfs, hns, hq, hsame2, hO2, hQ, hop, hrun2⟩
      simp only at hxy hy hfs hns hq hsame2 hO2 hQ hop hrun2 ⊢
      refine AW.seqL [0, 5, 6, 8, 9] fun K7 hK7 => ?_
      refine AW.stepL [] [0, 5, 6, 8, 9, 55] fun K hK => ?_
      have hpost := post y fs ns s2 fx ax hxy hy hfs hns hq hsame2 hO2 hQ hop hrun2
      clear post
      by_cases hyl : y < ws.length
      · have hltI : (y : Int) < ws.length := by omega
        obtain ⟨v, hv⟩ := get_ex hyl
        have hdrop2 : ws.drop y = v :: ws.drop (y + 1) := by
          rw [List.drop_eq_getElem_cons hyl]
          congr 1
          rw [List.getElem?_eq_getElem hyl] at hv
          exact Option.some.inj hv
        simp [hltI, hv]
        refine (kind_c v s2).mono ?_
        rintro r s2' ⟨rfl, rfl⟩
        by_cases hk2 : kindN v = 0
        · simp [hk2]
          refine hK _ _ ?_; clear hK hpost
          refine AW.cond (b := true) (hb := by simp) (fun _ => ?_) (fun h => nomatch h)
          refine AW.skip ?_
          simp
          refine hK7 _ _ ?_; clear hK7
          refine AW.block ?_
          have hw2 : IntKind.i64.wrap ((y : Int) + 1) = (y : Int) + 1 := wrap64_id (by omega) (by omega)
          have hrun3 : prun (ws.drop (y + 1)) ((y + 1 : Nat) : Int) out (some (x, fs ++ [v], ns ++ [(y : Int)])) = pres ws := by
            rw [hdrop2, prun_cons] at hrun2
            rcases kind_cases v with ⟨hk, _⟩ | ⟨hk, _⟩ | ⟨hk, _⟩ | ⟨hk, hB2, hE2, hne2⟩
            · omega
            · omega
            · omega
            · simp only [if_neg hne2, pstep, hB2, hE2, if_true, if_false, Bool.false_eq_true] at hrun2
              simpa using hrun2
          rcases hop with ⟨rfl, rfl, rfl, rfl⟩ | ⟨jf, gf, ja, ga, rfl, rfl, h1, h2, h3, h4, h5, h6, h7⟩
          · refine AW.stepE [] [0, 5, 6, 8, 9] [.q [0], .q [0], .q [0], .q [0], .q [0], .q [0], .q [0], .e, .q [8], .e] (by kernel_rfl) (by kernel_rfl) fun K hK => ?_
            have k1 : ¬ s1'.next = s2'.next := by omega
            simp [hQ, hv, k1, hltI]
            refine ⟨by simp [maxLen], ?_⟩
            refine hK _ _ ?_; clear hK
            refine AW.stepL [] [0, 5, 6, 8, 9] fun K hK => ?_
            have k2 : ¬ s1'.next = s2'.next + 1 := by omega
            simp [hQ, k1, k2]
            refine ⟨by simp [maxLen], ?_⟩
            refine hK _ _ ?_; clear hK
            refine AW.region (ow := []) ?_
            simp [hw2]
            refine ⟨y + 1, [v], [(y : Int)], _, ?_, rfl, by simp [Knows], by omega⟩
            refine ⟨.rs s2'.next 0 0 1, .rs (s2'.next + 1) 0 0 1, by omega, by omega, by simp, by simp, by simp; omega, fun j hj => ?_, ?_, by simp, ?_, ?_⟩
            · simp [show j ≠ s1'.next by omega, show j ≠ s2'.next by omega, show j ≠ s2'.next + 1 by omega]; exact hsame2 j hj
            · simp [hqn', show σ.next ≠ s2'.next by omega, show σ.next ≠ s2'.next + 1 by omega, hO2]
            · exact .inr ⟨s2'.next, 0, s2'.next + 1, 0, by simp, by simp, by omega, by omega, by omega, by simp; omega, by simp, by simp [Ne.symm k1], by simp [Ne.symm k2]⟩
            · simpa using hrun3
          · refine AW.stepE [] [0, 5, 6, 8, 9] [.q [0], .q [0], .q [0], .q [0], .q [0], .q [0], .q [0], .e, .q [8], .e] (by kernel_rfl) (by kernel_rfl) fun K hK => ?_
            have k1 : ¬ s1'.next = jf := by omega
            have k2 : ¬ s1'.next = ja := by omega
            have k3 : ¬ ja = jf := by omega
            have k4 : ¬ ja = s1'.next := by omega
            simp [hQ, hv, k1, hltI, h6]
            refine ⟨by omega, by simp [maxLen]; omega, ?_⟩
            refine hK _ _ ?_; clear hK
            refine AW.stepL [] [0, 5, 6, 8, 9] fun K hK => ?_
            simp [hQ, k1, k2, k3, k4, h7]
            refine ⟨by omega, by simp [maxLen]; omega, ?_⟩
            refine hK _ _ ?_; clear hK
            refine AW.region (ow := []) ?_
            simp [hw2]
            refine ⟨y + 1, fs ++ [v], ns ++ [(y : Int)], _, ?_, rfl, by simp [Knows], by omega⟩
            refine ⟨.rs jf (gf + 1) 0 (fs.length + 1), .rs ja (ga + 1) 0 (ns.length + 1), by omega, by omega, by simp; omega, by simp; omega, by simpa using hq, fun j hj => ?_, ?_, by simp, ?_, ?_⟩
            · simp [show j ≠ s1'.next by omega, show j ≠ jf by omega, show j ≠ ja by omega]; exact hsame2 j hj
            · simp [hqn', show σ.next ≠ jf by omega, show σ.next ≠ ja by omega, hO2]
            · exact .inr ⟨jf, gf + 1, ja, ga + 1, by simp, by simp, h1, h2, h3, by simpa using h4, by simpa using h5, by simp [Ne.symm k1, h3], by simp [k4]⟩
            · simpa using hrun3
        · have hk2I : ((kindN v : Int) == 0) = false := by simpa using hk2
          simp [hk2, hk2I]
          refine hK _ _ ?_; clear hK hK7
          refine AW.cond (b := false) (hb := by simp) (fun h => nomatch h) (fun _ => ?_)
          refine AW.exit ?_
          simp
          exact hpost fun u hu => by rw [hv] at hu; cases hu; exact hk2
      · have hltI : ¬ (y : Int) < ws.length := by omega
        simp [hyl, hltI]
        refine hK _ _ ?_; clear hK hK7
        refine AW.cond (b := false) (hb := by simp) (fun h => nomatch h) (fun _ => ?_)
        refine AW.exit ?_
        simp
        exact hpost fun u hu => by
          have := (List.getElem?_eq_some_iff.1 hu).1
          omega
    · -- an end without a group
      simp only [if_neg hne, pstep, hB, hE, if_true, if_false, Bool.false_eq_true, reduceCtorEq] at hrun
      simp [hk]
      refine hK _ _ ?_; clear hK
      refine AW.cond (b := false) (hb := by simp) (fun h => nomatch h) (fun _ => ?_)
      refine AW.skip ?_
      simp
      refine hK3 _ _ ?_; clear hK3
      refine AW.seqL [0, 5, 6, 7] fun K4 hK4 => ?_
      refine AW.stepL [] [0, 5, 6, 7, 23] fun K hK => ?_
      simp
      refine hK _ _ ?_; clear hK
      refine AW.cond (b := true) (hb := by simp) (fun _ => ?_) (fun h => nomatch h)
      refine AW.stepL [] [2, 3, 4] fun K hK => ?_
      simp
      refine hK _ _ ?_; clear hK
      refine AW.ret ?_
      simp
      exact err _ _ _ hnx hsame (by rw [← hrun]; simp)
    · -- an empty word
      simp only [if_pos hne] at hrun
      simp [hk]
      refine hK _ _ ?_; clear hK
      refine AW.cond (b := true) (hb := by simp) (fun _ => ?_) (fun h => nomatch h)
      refine AW.stepL [] [2, 3, 4] fun K hK => ?_
      simp
      refine hK _ _ ?_; clear hK
      refine AW.ret ?_
      simp
      exact err _ _ _ hnx hsame hrun.symm
    · -- a file
      simp only [if_neg hne, pstep, hB, hE, if_true, if_false, Bool.false_eq_true] at hrun
      simp [hk]
      refine hK _ _ ?_; clear hK
      refine AW.cond (b := false) (hb := by simp) (fun h => nomatch h) (fun _ => ?_)
      refine AW.skip ?_
      simp
      refine hK3 _ _ ?_; clear hK3
      refine AW.seqL [0, 5, 6, 7] fun K4 hK4 => ?_
      refine AW.stepL [] [0, 5, 6, 7, 23] fun K hK => ?_
      simp
      refine hK _ _ ?_; clear hK
      refine AW.cond (b := false) (hb := by simp) (fun h => nomatch h) (fun _ => ?_)
      refine AW.skip ?_
      simp
      refine hK4 _ _ ?_; clear hK4
      refine AW.seqL [0, 5, 6] fun K5 hK5 => ?_
      refine AW.stepL [] [0, 5, 6, 26] fun K hK => ?_
      simp
      refine hK _ _ ?_; clear hK
      refine AW.cond (b := true) (hb := by simp) (fun _ => ?_) (fun h => nomatch h)
      refine AW.stepL [] [0, 5, 6] fun K hK => ?_
      simp [hw, hO]
      refine ⟨by omega, by simp [maxLen]; omega, ?_⟩
      refine hK _ _ ?_; clear hK
      refine AW.stepL [] [0, 5, 6] fun K hK => ?_
      simp [hw1]
      refine hK _ _ ?_; clear hK
      refine AW.exit ?_
      simp
      refine ⟨x + 1, out ++ [(false, [w], [(x : Int)])], go + 1, _, ⟨by omega, by simp; omega, by simpa using hnx, fun j hj => by simp [show j ≠ σ.next by omega]; exact hsame j hj, by simp [itemV], ?_⟩, rfl, by simp [Knows], by omega⟩
      simpa using hrun
  · simp at hb
    have hxe : x = ws.length := by omega
    rw [hxe, List.drop_length] at hrun
    refine AW.exit ?_
    simp
    refine hK1 _ _ ?_; clear hK1
    refine AW.stepL [] [2, 3, 4] fun K hK => ?_
    simp
    refine hK _ _ ?_; clear hK
    refine AW.ret ?_
    simp
    simp only [prun] at hrun
    refine fin_tup hσ (by omega) hsame (y := itemsV out) (SR.row hO (none_next hσ (Nat.le_refl _)) (by simp) (by rw [List.drop_zero, List.take_of_length_le (by simp)])) (bel_itemsV _ _) ⟨by rw [← hrun]; rfl, rfl⟩
end Go.Proofs.YtoipkcljmlfobaaDoor
