/- The laws on brackets and on joined command lines. No condition. -/
import Derived.Test.YtoipkcljmlfobaaDoorC7
set_option linter.unusedVariables false
set_option linter.unusedSimpArgs false
namespace Go.Proofs.YtoipkcljmlfobaaDoor
open Go Go.AW
set_option maxRecDepth 100000
set_option maxHeartbeats 8000000

/-! ### Brackets -/
def bstep (s : Int × Bool) (w : W) : Int × Bool :=
  let d := if isB w then s.1 + 1 else if isE w then s.1 - 1 else s.1
  (d, s.2 && !w.isEmpty && decide (0 ≤ d) && decide (d ≤ 1))

theorem brun_false (l : List W) (d : Int) : (l.foldl bstep (d, false)).2 = false := by
  induction l generalizing d with
  | nil => rfl
  | cons w l ih => simp [List.foldl_cons, bstep]; exact ih _

theorem isB_ne {w : W} (h : isB w = true) : w ≠ [] := by rintro rfl; revert h; decide
theorem isE_ne {w : W} (h : isE w = true) : w ≠ [] := by rintro rfl; revert h; decide
theorem isE_isB {w : W} (h : isE w = true) : isB w = false := by
  simp only [isE, Bool.or_eq_true, beq_iff_eq] at h
  rcases h with rfl | rfl <;> decide

def stD : St → Int
  | none => 0
  | some _ => 1
def stLo (i : Int) : St → Prop
  | none => True
  | some (fr, _, _) => 0 ≤ fr ∧ fr < i

theorem law_brackets : ∀ (l : List W) (i : Int) (out : List Item) (st : St), 0 ≤ i → stLo i st →
    ((prun l i out st).2.2 = 0 → (l.foldl bstep (stD st, true)) = (0, true) ∧ (prun l i out st).2.1 = 0) ∧
    ((prun l i out st).2.2 ≠ 0 → (prun l i out st).1 = [] ∧ 0 ≤ (prun l i out st).2.1 ∧ (prun l i out st).2.1 < i + l.length ∧ ¬ ((l.foldl bstep (stD st, true)).2 = true ∧ (l.foldl bstep (stD st, true)).1 = 0))
  | [], i, out, none, hi, _ => by simp [prun, stD]
  | [], i, out, some (fr, fs, ns), hi, hlo => by simp [prun, stD]; exact ⟨hlo.1, hlo.2⟩
  | w :: l, i, out, st, hi, hlo => by
    rw [prun_cons]
    by_cases hw : w = []
    · subst hw
      have : (([] : W) :: l).foldl bstep (stD st, true) = l.foldl bstep (stD st, false) := by
        have hB : isB [] = false := by decide
        have hE : isE [] = false := by decide
        simp [List.foldl_cons, bstep, hB, hE]
      rw [this]
      have hf := brun_false l (stD st)
      simp [hi, hf]
      omega
    · rw [if_neg hw]
      have hwe : w.isEmpty = false := by simpa using hw
      cases st with
      | none =>
        cases hB : isB w with
        | true =>
          have ih := law_brackets l (i + 1) out (some (i, [], [])) (by omega) ⟨hi, by omega⟩
          have hfold : (w :: l).foldl bstep (stD none, true) = l.foldl bstep (stD (some (i, [], [])), true) := by simp [List.foldl_cons, bstep, hB, hwe, stD]
          simp only [pstep, hB, if_true, hfold, List.length_cons] at ih ⊢
          exact ⟨ih.1, fun h => by obtain ⟨a, b, c, d⟩ := ih.2 h; exact ⟨a, b, by omega, d⟩⟩
        | false =>
          cases hE : isE w with
          | true =>
            have hfold : (w :: l).foldl bstep (stD none, true) = l.foldl bstep (-1, false) := by simp [List.foldl_cons, bstep, hB, hE, hwe, stD]
            have hf := brun_false l (-1)
            simp [pstep, hB, hE, hfold, hf, hi]
            omega
          | false =>
            have ih := law_brackets l (i + 1) (out ++ [(false, [w], [i])]) none (by omega) trivial
            have hfold : (w :: l).foldl bstep (stD none, true) = l.foldl bstep (stD none, true) := by simp [List.foldl_cons, bstep, hB, hE, hwe, stD]
            simp only [pstep, hB, hE, if_true, if_false, Bool.false_eq_true, hfold, List.length_cons] at ih ⊢
            exact ⟨ih.1, fun h => by obtain ⟨a, b, c, d⟩ := ih.2 h; exact ⟨a, b, by omega, d⟩⟩
      | some o =>
        obtain ⟨fr, fs, ns⟩ := o
        cases hB : isB w with
        | true =>
          have hfold : (w :: l).foldl bstep (stD (some (fr, fs, ns)), true) = l.foldl bstep (2, false) := by simp [List.foldl_cons, bstep, hB, hwe, stD]
          have hf := brun_false l 2
          simp [pstep, hB, hfold, hf, hi]
          omega
        | false =>
          cases hE : isE w with
          | true =>
            have ih := law_brackets l (i + 1) (out ++ [(true, fs, ns)]) none (by omega) trivial
            have hfold : (w :: l).foldl bstep (stD (some (fr, fs, ns)), true) = l.foldl bstep (stD none, true) := by simp [List.foldl_cons, bstep, hB, hE, hwe, stD]
            simp only [pstep, hB, hE, if_true, if_false, Bool.false_eq_true, hfold, List.length_cons] at ih ⊢
            exact ⟨ih.1, fun h => by obtain ⟨a, b, c, d⟩ := ih.2 h; exact ⟨a, b, by omega, d⟩⟩
          | false =>
            have ih := law_brackets l (i + 1) out (some (fr, fs ++ [w], ns ++ [i])) (by omega) ⟨hlo.1, by have := hlo.2; omega⟩
            have hfold : (w :: l).foldl bstep (stD (some (fr, fs, ns)), true) = l.foldl bstep (stD (some (fr, fs ++ [w], ns ++ [i])), true) := by simp [List.foldl_cons, bstep, hB, hE, hwe, stD]
            simp only [pstep, hB, hE, if_true, if_false, Bool.false_eq_true, hfold, List.length_cons] at ih ⊢
            exact ⟨ih.1, fun h => by obtain ⟨a, b, c, d⟩ := ih.2 h; exact ⟨a, b, by omega, d⟩⟩

theorem brun_bound (l : List W) : ∀ (d : Int) (b : Bool), d - l.length ≤ (l.foldl bstep (d, b)).1 ∧ (l.foldl bstep (d, b)).1 ≤ d + l.length := by
  induction l with
  | nil => intro d b; simp
  | cons w l ih =>
    intro d b
    rw [List.foldl_cons]
    have h := ih (bstep (d, b) w).1 (bstep (d, b) w).2
    rw [show ((bstep (d, b) w).1, (bstep (d, b) w).2) = bstep (d, b) w from rfl] at h
    have h1 : d - 1 ≤ (bstep (d, b) w).1 ∧ (bstep (d, b) w).1 ≤ d + 1 := by
      simp only [bstep]
      split
      · omega
      · split <;> omega
    simp only [List.length_cons]
    constructor
    · have := h.1; omega
    · have := h.2; omega

theorem brun_snoc {l : List W} {i : Nat} {w : W} (h : l[i]? = some w) (s : Int × Bool) : (l.take (i + 1)).foldl bstep s = bstep ((l.take i).foldl bstep s) w := by
  rw [List.take_add_one, h]; simp [List.foldl_append]

/-! ### Joined command lines -/
theorem prun_append : ∀ (a b : List W) (i : Int) (out : List Item) (st : St) (l : List Item), prun a i out st = (l, 0, 0) → prun (a ++ b) i out st = prun b (i + a.length) l none
  | [], b, i, out, none, l, h => by simp [prun] at h; simp [h]
  | [], b, i, out, some (fr, fs, ns), l, h => by simp [prun] at h
  | w :: a, b, i, out, st, l, h => by
    rw [List.cons_append, prun_cons]
    rw [prun_cons] at h
    split at h
    · simp at h
    · rename_i hw
      rw [if_neg hw]
      split at h
      · rename_i hp
        rw [if_pos hp, prun_append a b _ _ _ l h]
        congr 1
        simp only [List.length_cons]; omega
      · rename_i hp
        exact absurd (by simpa using congrArg (fun x => x.2.2) h) hp

def strip : St → Option (List W)
  | none => none
  | some (_, fs, _) => some fs

theorem prun_shift : ∀ (b : List W) (j j' : Int) (out out' : List Item) (st st' : St), strip st = strip st' →
    (prun b j out st).2.2 = (prun b j' out' st').2.2 ∧ ((prun b j out st).2.2 = 0 → ∃ m, (prun b j out st).1.map (key false) = out.map (key false) ++ m ∧ (prun b j' out' st').1.map (key false) = out'.map (key false) ++ m)
  | [], j, j', out, out', st, st', h => by
    cases st with
    | none => cases st' with
      | none => simp [prun]
      | some o => obtain ⟨a, b, c⟩ := o; simp [strip] at h
    | some o => cases st' with
      | none => obtain ⟨a, b, c⟩ := o; simp [strip] at h
      | some o' => obtain ⟨a, b, c⟩ := o; obtain ⟨a', b', c'⟩ := o'; simp [prun]
  | w :: b, j, j', out, out', st, st', h => by
    rw [prun_cons, prun_cons]
    by_cases hw : w = []
    · simp [hw]
    · simp only [if_neg hw]
      cases st with
      | none => cases st' with
        | some o => obtain ⟨a, b, c⟩ := o; simp [strip] at h
        | none =>
          cases hB : isB w with
          | true => simpa [pstep, hB] using prun_shift b (j + 1) (j' + 1) out out' (some (j, [], [])) (some (j', [], [])) rfl
          | false =>
            cases hE : isE w with
            | true => simp [pstep, hB, hE]
            | false =>
              obtain ⟨h1, h2⟩ := prun_shift b (j + 1) (j' + 1) (out ++ [(false, [w], [j])]) (out' ++ [(false, [w], [j'])]) none none rfl
              simp only [pstep, hB, hE, if_true, if_false, Bool.false_eq_true]
              refine ⟨h1, fun h => ?_⟩
              obtain ⟨m, e1, e2⟩ := h2 h
              exact ⟨key false (false, [w], [j]) :: m, by rw [e1]; simp, by rw [e2]; simp [key]⟩
      | some o => cases st' with
        | none => obtain ⟨a, b, c⟩ := o; simp [strip] at h
        | some o' =>
          obtain ⟨fr, fs, ns⟩ := o
          obtain ⟨fr', fs', ns'⟩ := o'
          simp [strip] at h
          subst h
          cases hB : isB w with
          | true => simp [pstep, hB]
          | false =>
            cases hE : isE w with
            | true =>
              obtain ⟨h1, h2⟩ := prun_shift b (j + 1) (j' + 1) (out ++ [(true, fs, ns)]) (out' ++ [(true, fs, ns')]) none none rfl
              simp only [pstep, hB, hE, if_true, if_false, Bool.false_eq_true]
              refine ⟨h1, fun h => ?_⟩
              obtain ⟨m, e1, e2⟩ := h2 h
              exact ⟨key false (true, fs, ns) :: m, by rw [e1]; simp, by rw [e2]; simp [key]⟩
            | false =>
              have := prun_shift b (j + 1) (j' + 1) out out' (some (fr, fs ++ [w], ns ++ [j])) (some (fr', fs ++ [w], ns' ++ [j'])) rfl
              simpa [pstep, hB, hE] using this

theorem law_concat (a b : List W) (ha : (pres a).2.2 = 0) (hb : (pres b).2.2 = 0) : (pres (a ++ b)).2.2 = 0 ∧ sameB (pres (a ++ b)).1 ((pres a).1 ++ (pres b).1) false = true := by
  have h0 : (pres a).2.1 = 0 := ((law_brackets a 0 [] none (by omega) trivial).1 ha).2
  have he : prun a 0 [] none = ((pres a).1, 0, 0) := by
    show pres a = _
    rw [← h0]
    conv => rhs; rw [show (pres a).1 = (pres a).1 from rfl]
    rw [show ((pres a).1, (pres a).2.1, (pres a).2.1) = ((pres a).1, (pres a).2.1, (pres a).2.2) from by rw [h0, ha]]
  have h1 := prun_append a b 0 [] none _ he
  obtain ⟨h2, h3⟩ := prun_shift b (0 + a.length) 0 (pres a).1 [] none none rfl
  have e : pres (a ++ b) = prun b (0 + a.length) (pres a).1 none := h1
  rw [e]
  have h4 : (prun b (0 + a.length) (pres a).1 none).2.2 = 0 := by rw [h2]; exact hb
  obtain ⟨m, e1, e2⟩ := h3 h4
  refine ⟨h4, ?_⟩
  simp only [sameB, decide_eq_true_eq]
  rw [e1, List.map_append]
  have : m = (pres b).1.map (key false) := by
    have : (prun b 0 [] none).1.map (key false) = m := by simpa using e2
    exact this.symm
  rw [this]
/-- The loop of the law on brackets. -/
structure BI where
  x : Nat
  d : Int
  ok : Bool

theorem CmdlineBrackets_c (ws : List W) (hl : ws.length ≤ 9223372036854775807) (σ : Store) : ACalls E 3 [strs ws] σ fun r σ' => r = .c (.bool true) ∧ σ' = σ := by
  refine ACalls.enter Tryd.func3 rfl Tryd.ntmps3 Tryd.results3 (by simp) fun hσ => ?_
  refine AW.stepL [] [0] fun K hK => ?_
  simp
  refine hK _ _ ?_; clear hK
  refine AW.seqL [0] fun K1 hK1 => ?_
  refine AW.stepL [] [0, 15] fun K hK => ?_
  simp
  refine (awake_c σ).mono ?_
  rintro r σ' ⟨rfl, rfl⟩
  simp
  refine hK _ _ ?_; clear hK
  refine AW.cond (hb := by simp; rfl) (fun hb => ?_) (fun hb => ?_)
  · refine AW.stepL [] [2] fun K hK => ?_
    simp
    refine (awake_c σ').mono ?_
    rintro r σ ⟨rfl, rfl⟩
    simp
    refine hK _ _ ?_; clear hK
    refine AW.ret ?_
    simp
    exact Fin.same (Nat.le_refl _) ⟨rfl, rfl⟩
  · simp at hb
    have hln : ws.length ≤ 200 := by omega
    refine AW.skip ?_
    simp
    refine hK1 _ _ ?_; clear hK1
    refine AW.stepL [] [0, 3] fun K hK => ?_
    simp
    refine hK _ _ ?_; clear hK
    refine AW.stepL [] [0, 3, 4] fun K hK => ?_
    simp
    refine hK _ _ ?_; clear hK
    refine AW.seqL [0, 3, 4] fun K2 hK2 => ?_
    refine AW.stepL [] [0, 3, 4, 5] fun K hK => ?_
    simp
    refine hK _ _ ?_; clear hK
    refine AW.block ?_
    refine AW.loopS (ι := BI) (fun x => [(0, strs ws), (3, .c (.int .i64 x.d)), (4, .c (.bool x.ok)), (5, .c (.int .i64 x.x))]) (fun _ => σ') (fun x => x.x ≤ ws.length ∧ (x.d, x.ok) = (ws.take x.x).foldl bstep (0, true)) (fun x => ws.length - x.x) ⟨0, 0, true⟩ (fun _ _ => Nat.le_refl _) (by simp) rfl (by simp [Knows]) ?_
    rintro ⟨x, d, ok⟩ ⟨hx, hd⟩
    simp only at hx hd ⊢
    have hbd := brun_bound (ws.take x) 0 true
    rw [← hd] at hbd
    have htl : (ws.take x).length ≤ 200 := by simp; omega
    simp only at hbd
    refine AW.seqL [0, 3, 4, 5] fun K3 hK3 => ?_
    refine AW.stepL [] [0, 3, 4, 5, 20] fun K hK => ?_
    simp
    refine hK _ _ ?_; clear hK
    refine AW.cond (hb := by simp; rfl) (fun hb => ?_) (fun hb => ?_)
    · simp at hb
      obtain ⟨w, hw⟩ := get_ex hb
      have hltI : (x : Int) < ws.length := by omega
      have hw1 : IntKind.i64.wrap ((x : Int) + 1) = (x : Int) + 1 := wrap64_id (by omega) (by omega)
      have hsn := brun_snoc hw (0, true)
      rw [← hd] at hsn
      refine AW.skip ?_
      simp
      refine hK3 _ _ ?_; clear hK3
      refine AW.seqL [0, 3, 4, 5] fun K4 hK4 => ?_
      refine AW.block ?_
      refine AW.seqL [0, 3, 4, 5] fun K5 hK5 => ?_
      refine AW.stepL [] [0, 3, 4, 5, 26] fun K hK => ?_
      simp [hw, hltI]
      refine hK _ _ ?_; clear hK
      -- behind the switch
      have post : ∀ (d' : Int) (b : Bool), bstep (d, ok) w = (d', b && decide (0 ≤ d') && decide (d' ≤ 1)) → K5 [(0, strs ws), (3, .c (.int .i64 d')), (4, .c (.bool b)), (5, .c (.int .i64 x))] σ' := by
        intro d' b hst
        refine hK5 _ _ ?_; clear hK5
        refine AW.region (ow := []) ?_
        have fin : ∀ b' : Bool, b' = (b && decide (0 ≤ d') && decide (d' ≤ 1)) → K4 [(0, strs ws), (3, .c (.int .i64 d')), (4, .c (.bool b')), (5, .c (.int .i64 x))] σ' := by
          intro b' hb'
          refine hK4 _ _ ?_; clear hK4
          refine AW.region (ow := []) ?_
          simp [hw1]
          refine ⟨⟨x + 1, d', b'⟩, ⟨by show x + 1 ≤ _; omega, ?_⟩, by simp [Knows], by show _ - (x + 1) < _ - x; omega⟩
          show (d', b') = _
          rw [hsn, hst, hb']
        cases b with
        | false =>
          simp
          exact fin false (by simp)
        | true =>
          by_cases h1 : 0 ≤ d'
          · by_cases h2 : d' ≤ 1
            · simp [h1, h2]
              exact fin true (by simp [h1, h2])
            · simp [h1, h2]
              exact fin false (by simp [h1, h2])
          · simp [h1]
            exact fin false (by simp [h1])
      clear hK4 hK5
      refine AW.block ?_
      refine AW.stepL [] [0, 3, 4, 5, 26, 27] fun K hK => ?_
      by_cases he : w = []
      · subst he
        simp
        refine hK _ _ ?_; clear hK
        refine AW.cond (b := true) (hb := by simp) (fun _ => ?_) (fun h => nomatch h)
        refine AW.region (ow := []) ?_
        simp
        exact post d false (by simp [bstep, show isB [] = false by decide, show isE [] = false by decide])
      · have hwi : w.isEmpty = false := by simpa using he
        have hbs : ∀ d', d' = (if isB w then d + 1 else if isE w then d - 1 else d) → bstep (d, ok) w = (d', ok && decide (0 ≤ d') && decide (d' ≤ 1)) := by
          intro d' h; subst h; simp [bstep, hwi]
        have hp1 : IntKind.i64.wrap (d + 1) = d + 1 := wrap64_id (by omega) (by omega)
        have hp2 : IntKind.i64.wrap (d - 1) = d - 1 := wrap64_id (by omega) (by omega)
        simp [he, hwi]
        refine hK _ _ ?_; clear hK
        refine AW.cond (b := false) (hb := by simp [hwi]) (fun h => nomatch h) (fun _ => ?_)
        refine AW.seqL [0, 3, 4, 5, 26, 29] fun K6 hK6 => ?_
        have beg : isB w = true → K6 [(0, strs ws), (3, .c (.int .i64 d)), (4, .c (.bool ok)), (5, .c (.int .i64 x)), (26, str w), (29, .c (.bool true))] σ' := by
          intro hB
          refine hK6 _ _ ?_; clear hK6
          refine AW.cond (b := true) (hb := by simp) (fun _ => ?_) (fun h => nomatch h)
          refine AW.region (ow := []) ?_
          simp [hp1]
          exact post (d + 1) ok (hbs _ (by simp [hB]))
        have nob : isB w = false → K6 [(0, strs ws), (3, .c (.int .i64 d)), (4, .c (.bool ok)), (5, .c (.int .i64 x)), (26, str w), (29, .c (.bool false))] σ' := by
          intro hB
          refine hK6 _ _ ?_; clear hK6 beg
          refine AW.cond (b := false) (hb := by simp) (fun h => nomatch h) (fun _ => ?_)
          refine AW.seqL [0, 3, 4, 5, 34] fun K7 hK7 => ?_
          have ende : isE w = true → K7 [(0, strs ws), (3, .c (.int .i64 d)), (4, .c (.bool ok)), (5, .c (.int .i64 x)), (34, .c (.bool true))] σ' := by
            intro hE
            refine hK7 _ _ ?_; clear hK7
            refine AW.cond (b := true) (hb := by simp) (fun _ => ?_) (fun h => nomatch h)
            refine AW.region (ow := []) ?_
            simp [hp2]
            exact post (d - 1) ok (hbs _ (by simp [hB, hE]))
          have noe : isE w = false → K7 [(0, strs ws), (3, .c (.int .i64 d)), (4, .c (.bool ok)), (5, .c (.int .i64 x)), (34, .c (.bool false))] σ' := by
            intro hE
            refine hK7 _ _ ?_; clear hK7
            refine AW.cond (b := false) (hb := by simp) (fun h => nomatch h) (fun _ => ?_)
            refine AW.skip ?_
            simp
            exact post d ok (hbs _ (by simp [hB, hE]))
          clear hK7
          refine AW.stepL [] [0, 3, 4, 5, 26, 34] fun K hK => ?_
          by_cases h1 : w = [45, 41]
          · simp [h1]
            refine hK _ _ ?_; clear hK
            refine AW.cond (b := true) (hb := by simp) (fun _ => ?_) (fun h => nomatch h)
            refine AW.skip ?_
            simp
            exact ende (by rw [h1]; decide)
          · have q1 : (w == [45, 41]) = false := by simpa using h1
            simp [h1, q1]
            refine hK _ _ ?_; clear hK
            refine AW.cond (b := false) (hb := by simp) (fun h => nomatch h) (fun _ => ?_)
            refine AW.region (ow := []) ?_
            by_cases h2 : w = [45, 45, 101, 110, 100, 45, 103, 114, 111, 117, 112]
            · simp [h2]
              exact ende (by rw [h2]; decide)
            · have q2 : (w == [45, 45, 101, 110, 100, 45, 103, 114, 111, 117, 112]) = false := by simpa using h2
              simp [h2, q2]
              exact noe (by simp [isE, eW1, eW2, h1, h2])
        clear hK6
        refine AW.stepL [] [0, 3, 4, 5, 26, 29] fun K hK => ?_
        by_cases h1 : w = [45, 40]
        · simp [h1]
          refine hK _ _ ?_; clear hK
          refine AW.cond (b := true) (hb := by simp) (fun _ => ?_) (fun h => nomatch h)
          refine AW.skip ?_
          simp
          have := beg (by rw [h1]; decide)
          rw [h1] at this
          exact this
        · have q1 : (w == [45, 40]) = false := by simpa using h1
          simp [h1, q1]
          refine hK _ _ ?_; clear hK
          refine AW.cond (b := false) (hb := by simp) (fun h => nomatch h) (fun _ => ?_)
          refine AW.region (ow := []) ?_
          by_cases h2 : w = [45, 45, 115, 116, 97, 114, 116, 45, 103, 114, 111, 117, 112]
          · simp [h2]
            have := beg (by rw [h2]; decide)
            rw [h2] at this
            exact this
          · have q2 : (w == [45, 45, 115, 116, 97, 114, 116, 45, 103, 114, 111, 117, 112]) = false := by simpa using h2
            simp [h2, q2]
            exact nob (by simp [isB, bW1, bW2, h1, h2])
    · simp at hb
      have hxe : x = ws.length := by omega
      rw [hxe, List.take_length] at hd
      refine AW.exit ?_
      simp
      refine hK2 _ _ ?_; clear hK2
      refine AW.stepL [] [0, 3, 4, 6, 7, 8] fun K hK => ?_
      simp
      refine (Parse_c ws (by omega) σ').mono ?_
      rintro r σ ⟨rfl, rfl⟩
      simp
      refine hK _ _ ?_; clear hK
      obtain ⟨h1, h2⟩ := law_brackets ws 0 [] none (by omega) trivial
      rw [show prun ws 0 [] none = pres ws from rfl] at h1 h2
      rw [show stD none = 0 from rfl, ← hd] at h1 h2
      refine AW.seqL [3, 4, 7] fun K8 hK8 => ?_
      refine AW.stepL [] [0, 3, 4, 6, 7, 55] fun K hK => ?_
      simp
      refine hK _ _ ?_; clear hK
      by_cases hz : (pres ws).2.2 = 0
      · obtain ⟨g1, g2⟩ := h1 hz
        simp only [Prod.mk.injEq] at g1
        obtain ⟨rfl, rfl⟩ := g1
        refine AW.cond (b := false) (hb := by simp [hz]) (fun h => nomatch h) (fun _ => ?_)
        refine AW.skip ?_
        simp
        refine hK8 _ _ ?_; clear hK8
        refine AW.stepL [] [2] fun K hK => ?_
        simp [g2]
        refine hK _ _ ?_; clear hK
        refine AW.ret ?_
        simp
        exact Fin.same (Nat.le_refl _) ⟨rfl, rfl⟩
      · obtain ⟨g1, g2, g3, g4⟩ := h2 hz
        simp only at g4
        refine AW.cond (b := true) (hb := by simp [hz]) (fun _ => ?_) (fun h => nomatch h)
        refine AW.stepL [] [2] fun K hK => ?_
        have g3' : (pres ws).2.1 < ws.length := by omega
        cases ok with
        | false =>
          simp [g1, g2, g3']
          refine hK _ _ ?_; clear hK
          refine AW.ret ?_
          simp
          exact Fin.same (Nat.le_refl _) ⟨rfl, rfl⟩
        | true =>
          have hd0 : ¬ d = 0 := fun e => g4 ⟨rfl, e⟩
          have hd1 : (d == 0) = false := by simpa using hd0
          simp [g1, g2, g3', hd0, hd1]
          refine hK _ _ ?_; clear hK
          refine AW.ret ?_
          simp
          exact Fin.same (Nat.le_refl _) ⟨rfl, rfl⟩
end Go.Proofs.YtoipkcljmlfobaaDoor
