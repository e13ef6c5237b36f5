/- Parse. No condition. -/
import Derived.Test.YtebjdgcnnonjoaaDoorGG
set_option linter.unusedVariables false
set_option linter.unusedSimpArgs false
set_option linter.unnecessarySimpa false
namespace Go.Proofs.YtebjdgcnnonjoaaDoor
open Go Go.AW
set_option maxRecDepth 100000
set_option maxHeartbeats 100000000

/-- What Parse answers. -/
def prsV (x : Mp × Nat × Bool) : AV := .tup [mpV x.1, intV x.2.1, intV (if x.2.2 then 0 else 3)]
theorem bel_mpV (n : Nat) (m : Mp) : Bel n (mpV m) := by
  refine .agg _ ?_
  intro a ha
  simp at ha
  rcases ha with rfl | rfl | rfl
  · exact .ps _ (by first | (simp; done) | (simp; exact fun u _ => bel_uV n u))
  · exact .ps _ (by first | (simp; done) | (simp; exact fun u _ => bel_syV n u))
  · exact .ps _ (by first | (simp; done) | (simp; exact fun u _ => bel_slV n u))
theorem bel_prsV (n : Nat) (x : Mp × Nat × Bool) : Bel n (prsV x) := by
  refine .tup _ ?_
  intro a ha
  simp at ha
  rcases ha with rfl | rfl | rfl
  · exact bel_mpV n _
  · exact .c _
  · exact .c _
theorem kkeys : ∀ (a : Value) (b : AV), (a, b) ∈ kindsM → keyOk .str a := by
  intro a b h
  simp [kindsM] at h
  rcases h with ⟨rfl, _⟩ | ⟨rfl, _⟩ | ⟨rfl, _⟩ | ⟨rfl, _⟩ <;> trivial
theorem kinds5 (w : W) : (w = wUnit ∧ aFind (.string (bs w)) kindsM = some (0, .agg [intV 0, .fn (.func 41) [] []])) ∨ (w = wSymbol ∧ aFind (.string (bs w)) kindsM = some (1, .agg [intV 1, .fn (.func 42) [] []])) ∨
    (w = wSlot ∧ aFind (.string (bs w)) kindsM = some (2, .agg [intV 2, .fn (.func 43) [] []])) ∨ (w = wEnd ∧ aFind (.string (bs w)) kindsM = some (3, .agg [intV 3, .fn (.func 44) [] []])) ∨ ((∀ r, wsP (w :: r) = none) ∧ aFind (.string (bs w)) kindsM = none) := by
  rw [aFind_kinds]
  by_cases h1 : w = wUnit
  · exact .inl ⟨h1, by rw [if_pos h1]⟩
  · by_cases h2 : w = wSymbol
    · exact .inr (.inl ⟨h2, by rw [if_neg h1, if_pos h2]⟩)
    · by_cases h3 : w = wSlot
      · exact .inr (.inr (.inl ⟨h3, by rw [if_neg h1, if_neg h2, if_pos h3]⟩))
      · by_cases h4 : w = wEnd
        · exact .inr (.inr (.inr (.inl ⟨h4, by rw [if_neg h1, if_neg h2, if_neg h3, if_pos h4]⟩)))
        · exact .inr (.inr (.inr (.inr ⟨fun r => by simp [wsP, h1, h2, h3, h4], by rw [if_neg h1, if_neg h2, if_neg h3, if_neg h4]⟩)))
@[simp] theorem frz_uV (u : U) : frz (uV u) = uV u := by simp [uV]
@[simp] theorem frz_syV (u : Sy) : frz (syV u) = syV u := by simp [syV]
@[simp] theorem frz_slV (u : Sl) : frz (slV u) = slV u := by simp [slV]
theorem isP_al {s : Store} {p i j k : Nat} {m : Mp} {ph : Nat} (hs : StoreBel s) (h : isP s p i j k m ph) (o : AObj) : isP (s.alloc o) p i j k m ph := by
  obtain ⟨h1, h2, h3, h4⟩ := h
  have b1 := (hs _ _ h1).1
  have b2 := (hs _ _ h2).1
  have b3 := (hs _ _ h3).1
  have b4 := (hs _ _ h4).1
  simp [isP, h1, h2, h3, h4, show ¬ p = s.next by omega, show ¬ i = s.next by omega, show ¬ j = s.next by omega, show ¬ k = s.next by omega]
theorem psP_set (s : Store) (p i j k : Nat) (m : Mp) (ph ph' : Nat) : (psP s p i j k m ph).set p (pvO i j k m ph') = psP s p i j k m ph' := by
  refine store_ext (fun n => ?_) rfl
  simp only [set_get, psP_get]
  split <;> rfl
theorem sb_k {s : Store} (h : StoreBel s) (c f : Nat) : StoreBel (s.alloc (.arr 51 0 [.agg [intV c, .fn (.func f) [] []]])) := h.alloc_arr (by
  intro e he x hx
  simp at he
  subst he
  simp [AV.cells] at hx
  rcases hx with rfl | rfl
  · exact .c _
  · exact .fn _ _ _ (by simp) (by simp))
theorem sb_m {s : Store} (h : StoreBel s) : StoreBel (s.alloc (.map kindsM [0, 1, 2, 3] 4)) := h.alloc_obj (by
  intro e he
  simp [kindsM] at he
  rcases he with rfl | rfl | rfl | rfl <;> simp)
theorem unitM_len (m : Mp) (r : List W) : (unitM m r).us.length ≤ m.us.length + 1 ∧ (unitM m r).ss = m.ss ∧ (unitM m r).ts = m.ts := by
  unfold unitM; split <;> simp [Mp.add]
theorem symM_len (m : Mp) (r : List W) : (symM m r).ss.length ≤ m.ss.length + 1 ∧ (symM m r).us = m.us ∧ (symM m r).ts = m.ts := by
  unfold symM; split <;> simp [Mp.add]
theorem slotM_len (m : Mp) (r : List W) : (slotM m r).ts.length ≤ m.ts.length + 1 ∧ (slotM m r).us = m.us ∧ (slotM m r).ss = m.ss := by
  unfold slotM; split <;> simp [Mp.add]
theorem set_isP {s : Store} {p i j k : Nat} {m : Mp} {ph : Nat} (h : isP s p i j k m ph) (ph' : Nat) : s.set p (pvO i j k m ph') = psP s p i j k m ph' := by
  conv => lhs; rw [← psP_same h]
  exact psP_set s p i j k m ph ph'
theorem below_of_eq {a b : Store} (h : a = b) : Below b a := h ▸ Below.refl _
theorem below_psP {σ s : Store} {p i j k : Nat} {m : Mp} {ph : Nat} (h : Below σ s) (hp : σ.next ≤ p) (hi : σ.next ≤ i) (hj : σ.next ≤ j) (hk : σ.next ≤ k) : Below σ (psP s p i j k m ph) := by
  refine ⟨h.1, fun n hn => ?_⟩
  rw [psP_get, if_neg (by omega), if_neg (by omega), if_neg (by omega), if_neg (by omega)]
  exact h.2 n hn
structure PS where
  i : Nat
  s : Store
  m : Mp
  ph : Nat
/-- What is known at the head of a round. -/
def headP (σ : Store) (s : W) (sg : List W) (x : PS) : Prop := isP x.s (σ.next + 1) (σ.next + 3) (σ.next + 4) (σ.next + 5) x.m x.ph ∧ StoreBel x.s ∧ σ.next + 6 ≤ x.s.next ∧ x.s.get σ.next = some (.arr 27 0 [.agg [.nl, .nl, .nl]]) ∧ (∀ n, n < σ.next → x.s.get n = σ.get n) ∧ x.i ≤ sg.length ∧ x.ph ≤ 3 ∧
      x.m.us.length ≤ x.i ∧ x.m.ss.length ≤ x.i ∧ x.m.ts.length ≤ x.i ∧ parseP s = goP (sg.drop x.i) x.i x.m x.ph
theorem head_step {σ t1 : Store} {s : W} {sg : List W} {i : Nat} {m m' : Mp} {ph ph' : Nat} (h1 : isP t1 (σ.next + 1) (σ.next + 3) (σ.next + 4) (σ.next + 5) m ph) (h2 : StoreBel t1) (h3 : σ.next + 6 ≤ t1.next) (h4 : t1.get σ.next = some (.arr 27 0 [.agg [.nl, .nl, .nl]])) (h5 : Below σ t1)
    (h6 : i + 1 ≤ sg.length) (h7 : ph' ≤ 3) (h8 : m'.us.length ≤ i + 1) (h9 : m'.ss.length ≤ i + 1) (h10 : m'.ts.length ≤ i + 1) (h11 : parseP s = goP (sg.drop (i + 1)) (i + 1) m' ph') :
    headP σ s sg ⟨i + 1, psP t1 (σ.next + 1) (σ.next + 3) (σ.next + 4) (σ.next + 5) m' ph', m', ph'⟩ := by
  refine ⟨psP_is h1 _ _, psP_bel h2 h1 _ _, h3, ?_, fun n hn => ?_, h6, h7, h8, h9, h10, h11⟩
  · show (psP _ _ _ _ _ _ _).get σ.next = _
    rw [psP_get, if_neg (by omega), if_neg (by omega), if_neg (by omega), if_neg (by omega), h4]
  · show (psP _ _ _ _ _ _ _).get n = _
    rw [psP_get, if_neg (by omega), if_neg (by omega), if_neg (by omega), if_neg (by omega)]
    exact h5.2 n hn
theorem ex_step {σ t1 F : Store} {s : W} {sg : List W} {i : Nat} {m' : Mp} {ph' : Nat} (hF : F = psP t1 (σ.next + 1) (σ.next + 3) (σ.next + 4) (σ.next + 5) m' ph') (hi : i < sg.length) (hh : headP σ s sg ⟨i + 1, psP t1 (σ.next + 1) (σ.next + 3) (σ.next + 4) (σ.next + 5) m' ph', m', ph'⟩) :
    ∃ y : PS, (headP σ s sg y ∧ sg.length - y.i < sg.length - i) ∧ Below y.s F ∧ (i : Int) + 1 = (y.i : Int) :=
  ⟨_, ⟨hh, by show sg.length - (i + 1) < _; omega⟩, below_of_eq hF, rfl⟩
theorem Parse_p (s : W) (hs : s.length ≤ 40000) : Pur E 9 [str s] (prsV (parseP s)) := by
  refine Pur.enter [] Tryd.func9 rfl Tryd.ntmps9 Tryd.results9 hmE (by kernel_rfl) (by simp) (fun _ => bel_prsV _ _) fun σ hσ => ?_
  conv => arg 5; cbv
  simp
  refine (kinds_c _).mono ?_
  rintro _ _ ⟨rfl, rfl⟩
  have hend := aFind_kinds [101, 110, 100]
  simp [wUnit, wSymbol, wSlot, wEnd] at hend
  simp [hend, tz51]
  refine ⟨kkeys, Pur.call (SplitAfter_p s 10 (by omega)) ?_⟩
  simp
  refine loopW.adopt1 (p := σ.next + 1) (T := 48) (g := 0) (cs := [.nl, .nl, .nl, intV 0]) (cs' := [.lg (σ.next + 3) [], .nl, .nl, intV 0]) 74 (by simp) (by simp [cellsAs]) ?_
  refine loopW.adopt1 (p := σ.next + 1) (T := 48) (g := 0) (cs := [.lg (σ.next + 3) [], .nl, .nl, intV 0]) (cs' := [.lg (σ.next + 3) [], .lg (σ.next + 4) [], .nl, intV 0]) 68 (by simp) (by simp [cellsAs]) ?_
  refine loopW.adopt1 (p := σ.next + 1) (T := 48) (g := 0) (cs := [.lg (σ.next + 3) [], .lg (σ.next + 4) [], .nl, intV 0]) (cs' := [.lg (σ.next + 3) [], .lg (σ.next + 4) [], .lg (σ.next + 5) [], intV 0]) 70 (by simp) (by simp [cellsAs]) ?_
  obtain ⟨sg, hsg⟩ : ∃ sg, sg = sp 10 s := ⟨_, rfl⟩
  have hsl : sg.length ≤ 40001 := by rw [hsg, sp_count]; have := List.count_le_length (a := (10 : UInt8)) (l := s); omega
  have hwl := wnl_len 10 sg
  rw [← hsg]
  refine loop_e hmE (by kernel_rfl) (⟨0, _, Mp.e, 0⟩ : PS) (fun x => [(22, intV x.i)]) (fun x => x.s)
    (headP σ s sg)
    (fun x => sg.length - x.i) ?_ ?_ (Below.refl _) ?_ ?_
  · refine ⟨?_, ?_, ?_, ?_, ?_, Nat.zero_le _, Nat.zero_le _, Nat.le_refl _, Nat.le_refl _, Nat.le_refl _, ?_⟩
    · simp [isP, pvO, Mp.e]
    · refine StoreBel.set_obj (StoreBel.alloc_log (StoreBel.set_obj (StoreBel.alloc_log (StoreBel.set_obj (StoreBel.alloc_log (StoreBel.alloc_obj (StoreBel.alloc_arr (StoreBel.alloc_arr hσ (by simp)) (by simp)) ?_) _ _) (by simp) ?_) _ _) (by simp) ?_) _ _) (by simp) ?_
      · intro e he
        simp [kindsM] at he
        rcases he with rfl | rfl | rfl | rfl <;> simp
      · intro e he x hx
        simp at he
        subst he
        simp [AV.cells] at hx
        rcases hx with rfl | rfl | rfl
        · exact .lg _ _ (by simp) (by simp)
        · exact .nl
        · exact .c _
      · intro e he x hx
        simp at he
        subst he
        simp [AV.cells] at hx
        rcases hx with rfl | rfl | rfl | rfl
        · exact .lg _ _ (by first | (simp; done) | (simp; omega)) (by simp)
        · exact .lg _ _ (by simp) (by simp)
        · exact .nl
        · exact .c _
      · intro e he x hx
        simp at he
        subst he
        simp [AV.cells] at hx
        rcases hx with rfl | rfl | rfl | rfl
        · exact .lg _ _ (by first | (simp; done) | (simp; omega)) (by simp)
        · exact .lg _ _ (by first | (simp; done) | (simp; omega)) (by simp)
        · exact .lg _ _ (by simp) (by simp)
        · exact .c _
    · simp
    · simp [show ¬ σ.next = σ.next + 3 + 2 by omega, show ¬ σ.next = σ.next + 2 + 2 by omega, show ¬ σ.next = σ.next + 1 + 2 by omega]
    · intro n hn
      simp [show ¬ n = σ.next by omega, show ¬ n = σ.next + 1 by omega, show ¬ n = σ.next + 2 by omega, show ¬ n = σ.next + 3 by omega, show ¬ n = σ.next + 4 by omega, show ¬ n = σ.next + 5 by omega]
    · rw [parseP, ← hsg]; rfl
  · intro x hx
    obtain ⟨x1, x2, x3, _⟩ := hx
    refine ⟨by omega, x2, ?_⟩
    simp
    omega
  · simp
  · intro x hx
    obtain ⟨i, t, m, ph⟩ := x
    obtain ⟨x1, x2, x3, x4, x5, x6, x7, x8, x9, x10, x11⟩ := hx
    simp only at x1 x2 x3 x4 x5 x6 x7 x8 x9 x10 x11
    have y1 := x1.1
    simp [x4]
    refine ⟨fun hi => ?_, fun hi => ?_⟩
    · rw [hwl] at hi
      obtain ⟨x, hx⟩ := get_ex hi
      have hxm : x ∈ sg := List.mem_of_getElem? hx
      have hx10 : (10 : UInt8) ∉ x := by rw [hsg] at hxm; exact sp_mem 10 [] s (by simp) x hxm
      have hxl : x.length ≤ s.length := by rw [hsg] at hxm; exact sp_len hxm
      have hdr : sg.drop i = x :: sg.drop (i + 1) := by
        have e := List.getElem?_eq_some_iff.1 hx
        rw [List.drop_eq_getElem_cons e.1, e.2]
      have wi : IntKind.i64.wrap ((i : Int) + 1) = (i : Int) + 1 := wrap64_id (by omega) (by omega)
      obtain ⟨w0, r, hwr⟩ : ∃ w0 r, sp 32 x = w0 :: r := List.exists_cons_of_ne_nil (spA_ne 32 [] x)
      have hS := Split_p x 32 (by omega)
      rw [hwr] at hS
      have hbel : Below σ t := ⟨by omega, x5⟩
      have z0 : ¬ σ.next = t.next := by omega
      have z1 : ¬ σ.next = t.next + 1 := by omega
      have z2 : ¬ σ.next + 1 = t.next := by omega
      have z3 : ¬ σ.next + 1 = t.next + 1 := by omega
      have hone : ∀ (i : Nat) (x : i < 2), ([Value.int IntKind.i64 0, Value.nilFunc][i]'x).oneCell' = true := by intro i x; match i, x with | 0, _ => rfl | 1, _ => rfl
      have q : ∀ c, c < 6 → ¬ t.next = σ.next + c ∧ ¬ t.next + 1 = σ.next + c ∧ ¬ σ.next + c = t.next ∧ ¬ σ.next + c = t.next + 1 := fun c hc => by omega
      have q0 := q 0 (by omega)
      have q1 := q 1 (by omega)
      have q2 := q 2 (by omega)
      have q3 := q 3 (by omega)
      have q4 := q 4 (by omega)
      have q5 := q 5 (by omega)
      simp only [Nat.add_zero] at q0
      have b2 : ∀ a b : AObj, Below σ ((t.alloc a).alloc b) := fun a b => (hbel.alloc a).alloc b
      refine ⟨_, wnl_get hx, ?_⟩
      by_cases hlast : i + 1 < sg.length
      · rw [if_pos hlast]
        have hC := CutSuffix_p (x ++ [10]) 10 (by simp; omega)
        have hgl : (x ++ [10]).getLast? = some (10 : UInt8) := by simp
        simp only [cutL, hgl, if_true, decide_true, List.dropLast_concat] at hC
        obtain ⟨x', r', hd1⟩ : ∃ x' r', sg.drop (i + 1) = x' :: r' := List.exists_cons_of_ne_nil (by simp; omega)
        rw [hdr, hd1] at x11
        refine Pur.call hC ?_
        by_cases hp3 : ph = 3
        · have hph : (ph : Int) = 3 := by omega
          rw [goP, if_pos hp3] at x11
          rw [x11]
          simp [y1, pvO, x4, hph]
          refine Pur.call hS ?_
          simp [hph, y1, pvO]
          rcases kinds5 w0 with ⟨_, hf⟩ | ⟨_, hf⟩ | ⟨_, hf⟩ | ⟨_, hf⟩ | ⟨_, hf⟩
          all_goals
            refine ⟨?_, ?_⟩
          all_goals
            refine callD_of (kinds_c _) ?_
            simp [hf, tz51, hone, z0, z1, z2, z3, x4, y1, pvO, hph, wi]
            exact ⟨kkeys, by simp [prsV, mpV, Mp.e], b2 _ _⟩
        · have hph : ¬ (ph : Int) = 3 := by omega
          have hlp : lineP x = wsP (w0 :: r) := by rw [lineP, hwr]
          rw [goP, if_neg hp3, hlp] at x11
          simp [y1, pvO, x4, hph]
          refine Pur.call hS ?_
          simp [hph, y1, pvO]
          rcases kinds5 w0 with ⟨hw, hf⟩ | ⟨hw, hf⟩ | ⟨hw, hf⟩ | ⟨hw, hf⟩ | ⟨hw, hf⟩
          · subst hw
            have hrl : r.length ≤ 100000 := by
              have e := congrArg List.length hwr
              rw [sp_count] at e
              have := List.count_le_length (a := (32 : UInt8)) (l := x)
              simp at e
              omega
            have hrw : ∀ w ∈ r, w.length ≤ 100000 := fun w hw => by
              have : w ∈ sp 32 x := by rw [hwr]; simp [hw]
              have := sp_len this
              omega
            have hu : wsP (wUnit :: r) = (unitP r).map .u := by simp [wsP]
            rw [hu] at x11
            by_cases hlt : 0 < ph
            · have x11' : parseP s = (Mp.e, i + 1, false) := by
                rw [x11]
                cases unitP r with
                | none => rfl
                | some u => simp [Ln.ph, hlt]
              rw [x11']
              refine ⟨?_, ?_⟩
              all_goals
                refine callD_of (kinds_c _) ?_
                simp [hf, tz51, hone, z0, z1, z2, z3, x4, y1, pvO, hph, wi, hlt, show ¬ ph ≤ 0 by omega, show (0 : Int) < ph by omega, show ¬ (ph : Int) ≤ 0 by omega, show ¬ ph = 0 by omega]
                exact ⟨kkeys, by simp [prsV, mpV, Mp.e], b2 _ _⟩
            · refine ⟨?_, ?_⟩
              all_goals
                refine callD_of (kinds_c _) ?_
                simp [hf, tz51, hone, z0, z1, z2, z3, x4, y1, pvO, hph, wi, hlt, show ph = 0 by omega]
                refine ⟨kkeys, by omega, ?_⟩
                refine callD_of (unit_c r hrl hrw (σ.next + 1) (σ.next + 3) (σ.next + 4) (σ.next + 5) m ph (by omega) _ ?hp) ?_
                case hp => first | exact isP_al (sb_k x2 _ _) (isP_al x2 x1 _) _ | exact isP_al (sb_m x2) (isP_al x2 x1 _) _
                cases hU : unitP r with
                | none =>
                  rw [hU] at x11
                  simp only [Option.map_none] at x11
                  rw [x11]
                  simp [psP_get, q0, q1, q2, q3, q4, q5, x4, wi]
                  exact ⟨by simp [prsV, mpV, Mp.e], below_psP (b2 _ _) (by omega) (by omega) (by omega) (by omega)⟩
                | some u =>
                  rw [hU] at x11
                  simp only [Option.map_some] at x11
                  rw [if_neg (by simpa [Ln.ph] using hlt), ← hd1] at x11
                  simp [psP_get, pvO, q0, q1, q2, q3, q4, q5, x4, wi, hU]
                  refine ex_step (m' := unitM m r) (ph' := 0) (psP_set _ _ _ _ _ _ ph 0) hi (head_step (i := i) (m := m) (ph := ph) ?h1 ?h2 (by simp; omega) (by simp [z0, z1, x4]) (b2 _ _) (by omega) (by omega) ?h8 ?h9 ?h10 (by rw [x11, unitM_of hU]; rfl))
                  case h1 => first | exact isP_al (sb_k x2 _ _) (isP_al x2 x1 _) _ | exact isP_al (sb_m x2) (isP_al x2 x1 _) _
                  case h2 => first | exact sb_m (sb_k x2 _ _) | exact sb_k (sb_m x2) _ _
                  case h8 => have := unitM_len m r; omega
                  case h9 => have := unitM_len m r; rw [this.2.1]; omega
                  case h10 => have := unitM_len m r; rw [this.2.2]; omega
          · subst hw
            have hrl : r.length ≤ 100000 := by
              have e := congrArg List.length hwr
              rw [sp_count] at e
              have := List.count_le_length (a := (32 : UInt8)) (l := x)
              simp at e
              omega
            have hrw : ∀ w ∈ r, w.length ≤ 100000 := fun w hw => by
              have : w ∈ sp 32 x := by rw [hwr]; simp [hw]
              have := sp_len this
              omega
            have hu : wsP (wSymbol :: r) = (symP r).map .s := by simp [wsP, show ¬ wSymbol = wUnit by decide]
            rw [hu] at x11
            by_cases hlt : 1 < ph
            · have x11' : parseP s = (Mp.e, i + 1, false) := by
                rw [x11]
                cases symP r with
                | none => rfl
                | some u => simp [Ln.ph, hlt]
              rw [x11']
              refine ⟨?_, ?_⟩
              all_goals
                refine callD_of (kinds_c _) ?_
                simp [hf, tz51, hone, z0, z1, z2, z3, x4, y1, pvO, hph, wi, hlt, show ¬ ph ≤ 1 by omega, show (1 : Int) < ph by omega, show ¬ (ph : Int) ≤ 1 by omega, show ¬ ph = 0 by omega]
                exact ⟨kkeys, by simp [prsV, mpV, Mp.e], b2 _ _⟩
            · refine ⟨?_, ?_⟩
              all_goals
                refine callD_of (kinds_c _) ?_
                simp [hf, tz51, hone, z0, z1, z2, z3, x4, y1, pvO, hph, wi, hlt, show ¬ 1 < ph by omega, show ph ≤ 1 by omega, show ¬ (1 : Int) < ph by omega, show (ph : Int) ≤ 1 by omega]
                refine ⟨kkeys, by omega, ?_⟩
                refine callD_of (sym_c r hrl hrw (σ.next + 1) (σ.next + 3) (σ.next + 4) (σ.next + 5) m ph (by omega) _ ?hp) ?_
                case hp => first | exact isP_al (sb_k x2 _ _) (isP_al x2 x1 _) _ | exact isP_al (sb_m x2) (isP_al x2 x1 _) _
                cases hU : symP r with
                | none =>
                  rw [hU] at x11
                  simp only [Option.map_none] at x11
                  rw [x11]
                  simp [psP_get, q0, q1, q2, q3, q4, q5, x4, wi]
                  exact ⟨by simp [prsV, mpV, Mp.e], below_psP (b2 _ _) (by omega) (by omega) (by omega) (by omega)⟩
                | some u =>
                  rw [hU] at x11
                  simp only [Option.map_some] at x11
                  rw [if_neg (by simpa [Ln.ph] using hlt), ← hd1] at x11
                  simp [psP_get, pvO, q0, q1, q2, q3, q4, q5, x4, wi, hU]
                  refine ex_step (m' := symM m r) (ph' := 1) (psP_set _ _ _ _ _ _ ph 1) hi (head_step (i := i) (m := m) (ph := ph) ?h1 ?h2 (by simp; omega) (by simp [z0, z1, x4]) (b2 _ _) (by omega) (by omega) ?h8 ?h9 ?h10 (by rw [x11, symM_of hU]; rfl))
                  case h1 => first | exact isP_al (sb_k x2 _ _) (isP_al x2 x1 _) _ | exact isP_al (sb_m x2) (isP_al x2 x1 _) _
                  case h2 => first | exact sb_m (sb_k x2 _ _) | exact sb_k (sb_m x2) _ _
                  case h8 => have := symM_len m r; rw [this.2.1]; omega
                  case h9 => have := symM_len m r; omega
                  case h10 => have := symM_len m r; rw [this.2.2]; omega
          · subst hw
            have hrl : r.length ≤ 100000 := by
              have e := congrArg List.length hwr
              rw [sp_count] at e
              have := List.count_le_length (a := (32 : UInt8)) (l := x)
              simp at e
              omega
            have hrw : ∀ w ∈ r, w.length ≤ 100000 := fun w hw => by
              have : w ∈ sp 32 x := by rw [hwr]; simp [hw]
              have := sp_len this
              omega
            have hu : wsP (wSlot :: r) = (slotP r).map .t := by simp [wsP, show ¬ wSlot = wUnit by decide, show ¬ wSlot = wSymbol by decide]
            rw [hu] at x11
            by_cases hlt : 2 < ph
            · have x11' : parseP s = (Mp.e, i + 1, false) := by
                rw [x11]
                cases slotP r with
                | none => rfl
                | some u => simp [Ln.ph, hlt]
              rw [x11']
              refine ⟨?_, ?_⟩
              all_goals
                refine callD_of (kinds_c _) ?_
                simp [hf, tz51, hone, z0, z1, z2, z3, x4, y1, pvO, hph, wi, hlt, show ¬ ph ≤ 2 by omega, show (2 : Int) < ph by omega, show ¬ (ph : Int) ≤ 2 by omega, show ¬ ph = 0 by omega]
                exact ⟨kkeys, by simp [prsV, mpV, Mp.e], b2 _ _⟩
            · refine ⟨?_, ?_⟩
              all_goals
                refine callD_of (kinds_c _) ?_
                simp [hf, tz51, hone, z0, z1, z2, z3, x4, y1, pvO, hph, wi, hlt, show ¬ 2 < ph by omega, show ph ≤ 2 by omega, show ¬ (2 : Int) < ph by omega, show (ph : Int) ≤ 2 by omega]
                refine ⟨kkeys, by omega, ?_⟩
                refine callD_of (slot_c r hrl hrw (σ.next + 1) (σ.next + 3) (σ.next + 4) (σ.next + 5) m ph (by omega) _ ?hp) ?_
                case hp => first | exact isP_al (sb_k x2 _ _) (isP_al x2 x1 _) _ | exact isP_al (sb_m x2) (isP_al x2 x1 _) _
                cases hU : slotP r with
                | none =>
                  rw [hU] at x11
                  simp only [Option.map_none] at x11
                  rw [x11]
                  simp [psP_get, q0, q1, q2, q3, q4, q5, x4, wi]
                  exact ⟨by simp [prsV, mpV, Mp.e], below_psP (b2 _ _) (by omega) (by omega) (by omega) (by omega)⟩
                | some u =>
                  rw [hU] at x11
                  simp only [Option.map_some] at x11
                  rw [if_neg (by simpa [Ln.ph] using hlt), ← hd1] at x11
                  simp [psP_get, pvO, q0, q1, q2, q3, q4, q5, x4, wi, hU]
                  refine ex_step (m' := slotM m r) (ph' := 2) (psP_set _ _ _ _ _ _ ph 2) hi (head_step (i := i) (m := m) (ph := ph) ?h1 ?h2 (by simp; omega) (by simp [z0, z1, x4]) (b2 _ _) (by omega) (by omega) ?h8 ?h9 ?h10 (by rw [x11, slotM_of hU]; rfl))
                  case h1 => first | exact isP_al (sb_k x2 _ _) (isP_al x2 x1 _) _ | exact isP_al (sb_m x2) (isP_al x2 x1 _) _
                  case h2 => first | exact sb_m (sb_k x2 _ _) | exact sb_k (sb_m x2) _ _
                  case h8 => have := slotM_len m r; rw [this.2.1]; omega
                  case h9 => have := slotM_len m r; rw [this.2.2]; omega
                  case h10 => have := slotM_len m r; omega
          · subst hw
            have hu : wsP (wEnd :: r) = if r = [] then some .e else none := by simp [wsP, show ¬ wEnd = wUnit by decide, show ¬ wEnd = wSymbol by decide, show ¬ wEnd = wSlot by decide]
            rw [hu] at x11
            have hlt : ¬ 3 < ph := by omega
            refine ⟨?_, ?_⟩
            all_goals
              refine callD_of (kinds_c _) ?_
              simp [hf, tz51, hone, z0, z1, z2, z3, x4, y1, pvO, hph, wi, hlt, show ¬ (3 : Int) < ph by omega, show (ph : Int) ≤ 3 by omega]
              refine ⟨kkeys, by omega, ?_⟩
              refine callD_of (end_c (σ.next + 1) r _) ?_
              by_cases hr : r = []
              · rw [if_pos hr] at x11
                simp only at x11
                rw [if_neg (by simpa [Ln.ph] using hlt), ← hd1] at x11
                simp [hr, z0, z1, z2, z3, q0, q1, q2, q3, q4, q5, x4, wi, y1, pvO]
                refine ex_step (m' := m) (ph' := 3) (set_isP (ph := ph) ?h1 3) hi (head_step (i := i) (m := m) (ph := ph) ?h1 ?h2 (by simp; omega) (by simp [z0, z1, x4]) (b2 _ _) (by omega) (by omega) (by omega) (by omega) (by omega) (by rw [x11]; rfl))
                case h1 => first | exact isP_al (sb_k x2 _ _) (isP_al x2 x1 _) _ | exact isP_al (sb_m x2) (isP_al x2 x1 _) _
                case h2 => first | exact sb_m (sb_k x2 _ _) | exact sb_k (sb_m x2) _ _
              · rw [if_neg hr] at x11
                simp only at x11
                rw [x11]
                simp [hr, z0, z1, z2, z3, q0, q1, q2, q3, q4, q5, x4, wi]
                exact ⟨by simp [prsV, mpV, Mp.e], b2 _ _⟩
          · rw [hw r] at x11
            simp only at x11
            rw [x11]
            refine ⟨?_, ?_⟩
            all_goals
              refine callD_of (kinds_c _) ?_
              simp [hf, tz51, hone, z0, z1, z2, z3, x4, y1, pvO, hph, wi]
              exact ⟨kkeys, by simp [prsV, mpV, Mp.e], b2 _ _⟩
      · rw [if_neg hlast]
        have hd1 : sg.drop (i + 1) = [] := List.drop_eq_nil_of_le (by omega)
        rw [hdr, hd1] at x11
        have hgl : ¬ x.getLast? = some 10 := fun h => hx10 (List.mem_of_getLast? h)
        have hC := CutSuffix_p x 10 (by omega)
        simp only [cutL, hgl, if_false, decide_false] at hC
        refine Pur.call hC ?_
        by_cases hp3 : ph = 3
        · by_cases hx0 : x = []
          · subst hp3
            subst hx0
            rw [goP, if_pos ⟨rfl, rfl⟩] at x11
            rw [x11]
            simp [y1, pvO, x4]
            exact ⟨by simp [prsV, mpV], hbel⟩
          · have hph : (ph : Int) = 3 := by omega
            rw [goP, if_neg (fun h => hx0 h.2)] at x11
            rw [x11]
            simp [y1, pvO, x4, hph, hx0]
            refine Pur.call hS ?_
            simp
            rcases kinds5 w0 with ⟨_, hf⟩ | ⟨_, hf⟩ | ⟨_, hf⟩ | ⟨_, hf⟩ | ⟨_, hf⟩
            all_goals
              refine ⟨?_, ?_⟩
            all_goals
              refine callD_of (kinds_c _) ?_
              simp [hf, tz51, hone, z0, z1, x4, wi]
              exact ⟨kkeys, by simp [prsV, mpV, Mp.e], b2 _ _⟩
        · have hph : ¬ (ph : Int) = 3 := by omega
          rw [goP, if_neg (fun h => hp3 h.1)] at x11
          rw [x11]
          simp [y1, pvO, x4, hph]
          refine Pur.call hS ?_
          simp
          rcases kinds5 w0 with ⟨_, hf⟩ | ⟨_, hf⟩ | ⟨_, hf⟩ | ⟨_, hf⟩ | ⟨_, hf⟩
          all_goals
            refine ⟨?_, ?_⟩
          all_goals
            refine callD_of (kinds_c _) ?_
            simp [hf, tz51, hone, z0, z1, x4, wi]
            exact ⟨kkeys, by simp [prsV, mpV, Mp.e], b2 _ _⟩
    · have hi' : i = sg.length := by omega
      subst hi'
      rw [List.drop_length, goP] at x11
      rw [x11, hwl]
      have hbel : Below σ t := ⟨by omega, x5⟩
      exact ⟨by simp [prsV, mpV, Mp.e], hbel⟩
end Go.Proofs.YtebjdgcnnonjoaaDoor
