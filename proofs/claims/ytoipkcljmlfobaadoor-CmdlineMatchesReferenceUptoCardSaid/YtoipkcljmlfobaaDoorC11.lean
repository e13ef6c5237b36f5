/- The law on what is kept. No condition. -/
import Derived.Test.YtoipkcljmlfobaaDoorC9
set_option linter.unusedVariables false
set_option linter.unusedSimpArgs false
namespace Go.Proofs.YtoipkcljmlfobaaDoor
open Go Go.AW
set_option maxRecDepth 100000
set_option maxHeartbeats 8000000

def spoilt : W := [115, 112, 111, 105, 108, 116]

theorem flat_bound {α β : Type} (f : α → List β) (m : Nat) : ∀ (l : List α), (∀ a ∈ l, (f a).length ≤ m) → (l.flatMap f).length ≤ l.length * m
  | [], _ => by simp
  | a :: l, h => by
    rw [List.flatMap_cons, List.length_append, List.length_cons, Nat.succ_mul]
    have h1 := h a (by simp)
    have h2 := flat_bound f m l fun b hb => h b (by simp [hb])
    omega

/-- Rows of files that the law writes into. -/
structure KInv (σ : Store) (n o go : Nat) (es : List AV) (s : Store) : Prop where
  next : n + 2 ≤ s.next
  same : ∀ j, j < n → s.get j = σ.get j
  obj : s.get o = some (.arr 36 go es)
  item : ∀ (k : Nat) (e : AV), es[k]? = some e → ∃ b fx ax, e = .agg [.c (.bool b), fx, ax] ∧ (fx = .nl ∨ ∃ j gj, ∃ ls : List W, fx = .rs j gj 0 ls.length ∧ n + 2 ≤ j ∧ ls.length ≤ 1000000 ∧ s.get j = some (.arr 9 gj (ls.map str)))

theorem str_inj : ∀ {a b : List W}, a.map str = b.map str → a = b
  | [], [], _ => rfl
  | [], _ :: _, h => by simp at h
  | _ :: _, [], h => by simp at h
  | x :: a, y :: b, h => by
    simp only [List.map_cons, List.cons.injEq] at h
    have h1 : x = y := by simpa using h.1
    rw [h1, str_inj h.2]

theorem KInv.set {σ s : Store} {n o go : Nat} {es : List AV} (h : KInv σ n o go es s) (ho : n ≤ o ∧ o < n + 2) {j gj : Nat} {ls ls' : List W} (hj : n + 2 ≤ j) (hs : s.get j = some (.arr 9 gj (ls.map str))) (hl : ls'.length = ls.length) : KInv σ n o go es (s.set j (.arr 9 gj (ls'.map str))) := by
  refine ⟨by simpa using h.next, fun i hi => by simp [show i ≠ j by omega]; exact h.same i hi, by simp [show o ≠ j by omega]; exact h.obj, fun k e he => ?_⟩
  obtain ⟨b, fx, ax, rfl, hf⟩ := h.item k e he
  refine ⟨b, fx, ax, rfl, ?_⟩
  rcases hf with hf | ⟨j', gj', ls'', rfl, h1, h2, h3⟩
  · exact .inl hf
  · by_cases hjj : j' = j
    · subst hjj
      rw [hs] at h3
      simp only [Option.some.injEq, AObj.arr.injEq, true_and] at h3
      obtain ⟨rfl, h3⟩ := h3
      have := str_inj h3
      subst this
      exact .inr ⟨j', gj, ls', by rw [hl], h1, by omega, by simp⟩
    · exact .inr ⟨j', gj', ls'', rfl, h1, h2, by simp [hjj, h3]⟩

theorem CmdlineKeeps_c (ws : List W) (hl : ws.length ≤ 9223372036854775807) (σ : Store) : ACalls E 5 [strs ws] σ fun r σ' => r = .c (.bool true) ∧ σ' = σ := by
  refine ACalls.enter Tryd.func5 rfl Tryd.ntmps5 Tryd.results5 (by simp) fun hσ => ?_
  refine AW.stepL [] [0] fun K hK => ?_
  simp
  refine hK _ _ ?_; clear hK
  refine AW.seqL [0] fun K1 hK1 => ?_
  refine AW.stepL [] [0, 23] fun K hK => ?_
  simp
  refine (awake_c σ).mono ?_
  rintro r σ' ⟨rfl, rfl⟩
  simp
  refine hK _ _ ?_; clear hK
  refine AW.cond (hb := by simp; rfl) (fun hb => ?_) (fun hb => ?_)
  · refine AW.stepL [] [2] fun K hK => ?_
    simp
    refine (awake_c σ').mono ?_
    rintro r σ ⟨rfl, rfl⟩
    simp
    refine hK _ _ ?_; clear hK
    refine AW.ret ?_
    simp
    exact Fin.same (Nat.le_refl _) ⟨rfl, rfl⟩
  · simp at hb
    have hln : ws.length ≤ 200 := by omega
    refine AW.skip ?_
    simp
    refine hK1 _ _ ?_; clear hK1
    refine AW.stepL [] [0, 3] fun K hK => ?_
    have own : K [(0, strs ws), (3, if ws = [] then .nl else .rs σ'.next 0 0 ws.length)] (if ws = [] then σ' else σ'.alloc (.arr 9 0 (ws.map str))) := by
      refine hK _ _ ?_; clear hK
      refine AW.weaken (fr [(0, strs ws), (3, strs ws)]) σ' (Weak.some _ ⟨Nat.le_refl _, by split <;> simp, fun i o h => ?_, .inr hσ⟩ ?_) ?_
      · have := (hσ i o h).1
        split
        · exact h
        · simp [Nat.ne_of_lt this, h]
      · intro p hp
        simp only [List.mem_cons, List.not_mem_nil, or_false] at hp
        rcases hp with rfl | rfl
        · exact ⟨by simp, by simp; exact .refl _, .inr (bel_strs _ _)⟩
        · refine ⟨by simp, ?_, .inr (bel_strs _ _)⟩
          simp
          split
          · rename_i e; subst e; exact .nl
          · exact SR.row (T := 9) (es := ws.map str) (by simp) (none_next hσ (Nat.le_refl _)) (by simp) (by rw [List.drop_zero, List.take_of_length_le (by simp)])
      refine AW.stepL [] [0, 3, 4] fun K hK => ?_
      simp
      refine (Parse_own ws (by omega) σ').mono ?_
      rintro r s1 ⟨⟨x, rfl, hx⟩, hle1, hsame1⟩
      have hsm := pres_small ws (by omega)
      have hple := pres_le ws
      have hwl : (wordsOf (pres ws).1).length ≤ 1000000 := by
        have hb := pres_len ws 0 [] none 0 (by simp) (by simp) (by simp)
        have h1 := flat_bound wd 202 (pres ws).1 fun it hit => by
          have := (hb.2 it hit).1
          simp only [wd]
          split
          · simp only [List.length_cons, List.length_append, List.length_nil]; omega
          · omega
        have h2 : (pres ws).1.length * 202 ≤ 200 * 202 := Nat.mul_le_mul_right _ (by omega)
        show ((pres ws).1.flatMap wd).length ≤ _
        omega
      generalize hits : (pres ws).1 = its at *
      simp
      refine hK _ _ ?_; clear hK
      refine AW.bounded fun hbd => ?_
      refine AW.stepL [] [0, 3, 4, 7] fun K hK => ?_
      simp
      refine (Words_own x its hsm.1 hwl s1 ?_).mono ?_
      · rcases hx with ⟨rfl, h⟩ | ⟨o, g, es, rfl, h1, h2, h3, h4⟩
        · exact .inr (.inl ⟨rfl, h⟩)
        · have hoN : o < s1.next := hbd o _ h3
          exact .inr (.inr ⟨o, g, es, _, rfl, hoN, h3, h4⟩)
      rintro r s2 ⟨⟨g, rfl, hO⟩, hlt2, hsame2⟩
      simp
      refine hK _ _ ?_; clear hK
      refine AW.seqL [0, 3, 4] fun K3 hK3 => ?_
      refine AW.stepL [] [0, 3, 4, 7, 8] fun K hK => ?_
      simp
      refine hK _ _ ?_; clear hK
      refine AW.block ?_
      refine AW.loopS (ι := Nat × List W × Store) (fun y => [(0, strs ws), (3, strs ws), (4, x), (7, .rs s1.next g 0 (wordsOf its).length), (8, .c (.int .i64 y.1))]) (fun y => y.2.2)
        (fun y => y.1 ≤ (wordsOf its).length ∧ y.2.1.length = (wordsOf its).length ∧ s1.next < y.2.2.next ∧ (∀ j, j < s1.next → y.2.2.get j = s1.get j) ∧ y.2.2.get s1.next = some (.arr 9 g (y.2.1.map str))) (fun y => (wordsOf its).length - y.1) (0, wordsOf its, s2)
        (fun y hy => by have := hy.2.2.1; omega) ⟨Nat.zero_le _, rfl, hlt2, hsame2, hO⟩ rfl (by simp [Knows]) ?_
      rintro ⟨i, ls, s⟩ ⟨hi, hll, hnx, hsm3, hO3⟩
      simp only at hi hll hnx hsm3 hO3 ⊢
      refine AW.seqL [0, 3, 4, 7, 8] fun K4 hK4 => ?_
      refine AW.stepL [] [0, 3, 4, 7, 8, 39] fun K hK => ?_
      simp
      refine hK _ _ ?_; clear hK
      refine AW.cond (hb := by simp; rfl) (fun hb => ?_) (fun hb => ?_)
      · simp at hb
        have hltI : (i : Int) < (wordsOf its).length := by omega
        obtain ⟨w, hw⟩ := get_ex (l := ls) (i := i) (by omega)
        have hw1 : IntKind.i64.wrap ((i : Int) + 1) = (i : Int) + 1 := wrap64_id (by omega) (by omega)
        refine AW.skip ?_
        simp
        refine hK4 _ _ ?_; clear hK4
        refine AW.seqL [0, 3, 4, 7, 8] fun K5 hK5 => ?_
        refine AW.block ?_
        refine AW.region (ow := []) ?_
        simp [hO3, hltI, hw]
        refine hK5 _ _ ?_; clear hK5
        refine AW.region (ow := []) ?_
        simp [hw1]
        refine ⟨i + 1, ls.set i spoilt, _, ⟨by omega, by simpa using hll, by simpa using hnx, fun j hj => by simp [show j ≠ s1.next by omega]; exact hsm3 j hj, by simp [List.map_set, spoilt]⟩, rfl, by simp [Knows], by omega⟩
      · refine AW.exit ?_
        simp
        refine hK3 _ _ ?_; clear hK3
        refine AW.seqL [0, 3] fun K6 hK6 => ?_
        refine AW.stepL [] [0, 3, 4, 9] fun K hK => ?_
        simp
        refine hK _ _ ?_; clear hK
        refine AW.block ?_
        -- behind the loops
        have tail : ∀ s' : Store, σ'.next ≤ s'.next → (∀ j, j < σ'.next → s'.get j = σ'.get j) → K6 [(0, strs ws), (3, strs ws)] s' := by
          intro s' hle' hsame'
          refine hK6 _ _ ?_; clear hK6
          refine AW.weaken (fr [(0, strs ws), (3, strs ws)]) σ' (Weak.some _ ⟨Nat.le_refl _, hle', fun i o h => by rw [hsame' i (hσ i o h).1]; exact h, .inr hσ⟩ ?_) ?_
          · intro p hp
            simp only [List.mem_cons, List.not_mem_nil, or_false] at hp
            rcases hp with rfl | rfl
            · exact ⟨by simp, by simp; exact .refl _, .inr (bel_strs _ _)⟩
            · exact ⟨by simp, by simp; exact .refl _, .inr (bel_strs _ _)⟩
          refine AW.stepL [] [0, 3, 11] fun K hK => ?_
          simp
          refine (Parse_c ws (by omega) σ').mono ?_
          rintro r σ ⟨rfl, rfl⟩
          simp
          refine hK _ _ ?_; clear hK
          refine AW.stepL [] [0, 3, 11, 14] fun K hK => ?_
          simp
          refine (rParse_c ws (by omega) σ).mono ?_
          rintro r σ' ⟨rfl, rfl⟩
          simp
          refine hK _ _ ?_; clear hK
          refine AW.stepL [] [2] fun K hK => ?_
          simp
          refine (Texts_c ws ws (by omega) (by omega) σ').mono ?_
          rintro r σ ⟨rfl, rfl⟩
          simp [hits]
          refine (items_c its hsm.1 σ).mono ?_
          rintro r σ' ⟨rfl, rfl⟩
          simp
          refine (Same_c its its true hsm hsm σ').mono ?_
          rintro r σ ⟨rfl, rfl⟩
          rw [same_refl]
          simp
          refine hK _ _ ?_; clear hK
          refine AW.ret ?_
          simp
          exact Fin.same (Nat.le_refl _) ⟨rfl, rfl⟩
        clear hK6
        rcases hx with ⟨rfl, h⟩ | ⟨o, go, es, rfl, h1, h2, h3, h4⟩
        · refine AW.loopS (ι := Unit) (fun _ => [(0, strs ws), (3, strs ws), (4, .nl), (9, .c (.int .i64 0))]) (fun _ => s) (fun _ => True) (fun _ => 0) () (fun _ _ => by omega) trivial rfl (by simp [Knows]) ?_
          rintro _ _
          refine AW.seqL [0, 3, 4, 9] fun K7 hK7 => ?_
          refine AW.stepL [] [0, 3, 4, 9, 48] fun K hK => ?_
          simp
          refine hK _ _ ?_; clear hK
          refine AW.cond (b := false) (hb := by simp) (fun h => nomatch h) (fun _ => ?_)
          refine AW.exit ?_
          simp
          exact tail s (by omega) fun j hj => by rw [hsm3 j (by omega), hsame1 j hj]
        · have hoN : o < s1.next := hbd o _ h3
          have hinv : KInv σ' σ'.next o go es s := by
            refine ⟨by omega, fun j hj => by rw [hsm3 j (by omega), hsame1 j hj], by rw [hsm3 o hoN]; exact h3, fun k e he => ?_⟩
            have hel := h4.length
            obtain ⟨it, hit⟩ := get_ex (l := its) (i := k) (by have := (List.getElem?_eq_some_iff.1 he).1; omega)
            obtain ⟨fx, ax, rfl, hf, _⟩ := h4.get k e it he hit
            refine ⟨it.1, fx, ax, rfl, ?_⟩
            rcases hf with ⟨rfl, _⟩ | ⟨j, gj, rfl, g1, g2, g3⟩
            · exact .inl rfl
            · exact .inr ⟨j, gj, it.2.1, by simp, g1, (hsm.2 it (List.mem_of_getElem? hit)).1, by rw [hsm3 j g2]; exact g3⟩
          have hesl : es.length ≤ 1000000 := by have := h4.length; have := hsm.1; omega
          refine AW.loopS (ι := Nat × Store) (fun y => [(0, strs ws), (3, strs ws), (4, .rs o go 0 es.length), (9, .c (.int .i64 y.1))]) (fun y => y.2) (fun y => y.1 ≤ es.length ∧ KInv σ' σ'.next o go es y.2) (fun y => es.length - y.1) (0, s) (fun y hy => by have := hy.2.next; omega) ⟨Nat.zero_le _, hinv⟩ rfl (by simp [Knows]) ?_
          rintro ⟨i2, s3⟩ ⟨hi2, hk⟩
          simp only at hi2 hk ⊢
          refine AW.seqL [0, 3, 4, 9] fun K7 hK7 => ?_
          refine AW.stepL [] [0, 3, 4, 9, 48] fun K hK => ?_
          simp
          refine hK _ _ ?_; clear hK
          refine AW.cond (hb := by simp; rfl) (fun hb => ?_) (fun hb => ?_)
          · simp at hb
            have hltI : (i2 : Int) < es.length := by omega
            have hw2 : IntKind.i64.wrap ((i2 : Int) + 1) = (i2 : Int) + 1 := wrap64_id (by omega) (by omega)
            obtain ⟨e, he⟩ := get_ex (l := es) (i := i2) hb
            obtain ⟨b, fx, ax, rfl, hf⟩ := hk.item i2 e he
            refine AW.skip ?_
            simp
            refine hK7 _ _ ?_; clear hK7
            refine AW.seqL [0, 3, 4, 9] fun K8 hK8 => ?_
            refine AW.block ?_
            refine AW.stepL [] [0, 3, 4, 9, 10] fun K hK => ?_
            simp
            refine hK _ _ ?_; clear hK
            refine AW.block ?_
            have next : ∀ s4 : Store, KInv σ' σ'.next o go es s4 → K8 [(0, strs ws), (3, strs ws), (4, .rs o go 0 es.length), (9, .c (.int .i64 i2))] s4 := by
              intro s4 hk4
              refine hK8 _ _ ?_; clear hK8
              refine AW.region (ow := []) ?_
              simp [hw2]
              exact ⟨i2 + 1, s4, ⟨by omega, hk4⟩, rfl, by simp [Knows], by omega⟩
            clear hK8
            rcases hf with rfl | ⟨j, gj, ls0, rfl, g1, g2, g3⟩
            · refine AW.loopS (ι := Unit) (fun _ => [(0, strs ws), (3, strs ws), (4, .rs o go 0 es.length), (9, .c (.int .i64 i2)), (10, .c (.int .i64 0))]) (fun _ => s3) (fun _ => True) (fun _ => 0) () (fun _ _ => by have := hk.next; omega) trivial rfl (by simp [Knows]) ?_
              rintro _ _
              refine AW.seqL [0, 3, 4, 9, 10] fun K9 hK9 => ?_
              refine AW.stepL [] [0, 3, 4, 9, 10, 58] fun K hK => ?_
              simp [hk.obj, he, hltI]
              refine hK _ _ ?_; clear hK
              refine AW.cond (b := false) (hb := by simp) (fun h => nomatch h) (fun _ => ?_)
              refine AW.exit ?_
              simp
              exact next s3 hk
            · refine AW.loopS (ι := Nat × Store) (fun y => [(0, strs ws), (3, strs ws), (4, .rs o go 0 es.length), (9, .c (.int .i64 i2)), (10, .c (.int .i64 y.1))]) (fun y => y.2) (fun y => y.1 ≤ ls0.length ∧ KInv σ' σ'.next o go es y.2) (fun y => ls0.length - y.1) (0, s3) (fun y hy => by have := hy.2.next; omega) ⟨Nat.zero_le _, hk⟩ rfl (by simp [Knows]) ?_
              rintro ⟨k, s4⟩ ⟨hkl, hk4⟩
              simp only at hkl hk4 ⊢
              obtain ⟨b', fx', ax', heq, hf'⟩ := hk4.item i2 _ he
              simp only [AV.agg.injEq, List.cons.injEq, AV.c.injEq, Value.bool.injEq, and_true] at heq
              obtain ⟨_, hfx, _⟩ := heq
              subst hfx
              obtain ⟨ls, hll4, hs4⟩ : ∃ ls : List W, ls.length = ls0.length ∧ s4.get j = some (.arr 9 gj (ls.map str)) := by
                rcases hf' with hf' | ⟨j', gj', ls', hf', q1, q2, q3⟩
                · cases hf'
                · simp only [AV.rs.injEq, true_and] at hf'
                  obtain ⟨rfl, rfl, hll⟩ := hf'
                  exact ⟨ls', hll.symm, q3⟩
              refine AW.seqL [0, 3, 4, 9, 10] fun K9 hK9 => ?_
              refine AW.stepL [] [0, 3, 4, 9, 10, 58] fun K hK => ?_
              simp [hk4.obj, he, hltI]
              refine hK _ _ ?_; clear hK
              refine AW.cond (hb := by simp; rfl) (fun hb2 => ?_) (fun hb2 => ?_)
              · simp at hb2
                have hkI : (k : Int) < ls0.length := by omega
                obtain ⟨w, hw⟩ := get_ex (l := ls) (i := k) (by omega)
                have hw3 : IntKind.i64.wrap ((k : Int) + 1) = (k : Int) + 1 := wrap64_id (by omega) (by omega)
                refine AW.skip ?_
                simp
                refine hK9 _ _ ?_; clear hK9
                refine AW.seqL [0, 3, 4, 9, 10] fun K10 hK10 => ?_
                refine AW.block ?_
                refine AW.region (ow := []) ?_
                simp [hk4.obj, he, hltI, hs4, hkI, hw]
                refine hK10 _ _ ?_; clear hK10
                refine AW.region (ow := []) ?_
                simp [hw3]
                refine ⟨k + 1, _, ⟨by omega, ?_⟩, rfl, by simp [Knows], by omega⟩
                have := hk4.set ⟨h1, h2⟩ (ls' := ls.set k spoilt) g1 hs4 (by simp)
                simpa [List.map_set, spoilt] using this
              · refine AW.exit ?_
                simp
                exact next s4 hk4
          · refine AW.exit ?_
            simp
            exact tail s3 (by have := hk.next; omega) hk.same
    clear hK
    simp
    refine ⟨by omega, by simp [maxLen]; omega, ?_⟩
    by_cases he : ws = []
    · subst he
      simpa using own
    · simpa [he] using own
end Go.Proofs.YtoipkcljmlfobaaDoor
