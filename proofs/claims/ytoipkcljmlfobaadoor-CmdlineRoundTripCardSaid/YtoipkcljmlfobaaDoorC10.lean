/- The law on a command line there and back. No condition. -/
import Derived.Test.YtoipkcljmlfobaaDoorC9
set_option linter.unusedVariables false
set_option linter.unusedSimpArgs false
namespace Go.Proofs.YtoipkcljmlfobaaDoor
open Go Go.AW
set_option maxRecDepth 100000
set_option maxHeartbeats 8000000

/-! ### There and back -/
def plainW (w : W) : Bool := !isB w && !isE w && !w.isEmpty
def FitsI (it : Item) : Prop := (it.1 = true ∨ ∃ w, it.2.1 = [w]) ∧ ∀ w ∈ it.2.1, plainW w = true
def AtOk (ws : List W) (fs : List W) (ns : List Int) : Prop := ns.length = fs.length ∧ ∀ (k : Nat) (a : Int) (f : W), ns[k]? = some a → fs[k]? = some f → 0 ≤ a ∧ a < ws.length ∧ ws[a.toNat]? = some f
def stFs : St → List W
  | none => []
  | some (_, fs, _) => fs
def stNs : St → List Int
  | none => []
  | some (_, _, ns) => ns

theorem AtOk.snoc {ws fs : List W} {ns : List Int} {i : Nat} {w : W} (h : AtOk ws fs ns) (hw : ws[i]? = some w) : AtOk ws (fs ++ [w]) (ns ++ [(i : Int)]) := by
  obtain ⟨h1, h2⟩ := h
  refine ⟨by simp [h1], fun k a f ha hf => ?_⟩
  have hil := (List.getElem?_eq_some_iff.1 hw).1
  rw [List.getElem?_append] at ha hf
  split at ha
  · rename_i hk; rw [if_pos (by omega)] at hf; exact h2 k a f ha hf
  · rename_i hk; rw [if_neg (by omega)] at hf
    rw [← h1] at hf
    cases hk0 : k - ns.length with
    | zero =>
      rw [hk0] at ha hf
      simp at ha hf
      subst ha; subst hf
      exact ⟨by omega, by omega, by simpa using hw⟩
    | succ m => rw [hk0] at ha; simp at ha

theorem law_parsed (ws : List W) : ∀ (l : List W) (i : Nat) (out : List Item) (st : St), ws.drop i = l → (prun l i out st).2.2 = 0 →
    (∀ it ∈ out, FitsI it ∧ AtOk ws it.2.1 it.2.2) → (∀ w ∈ stFs st, plainW w = true) → AtOk ws (stFs st) (stNs st) →
    (∀ it ∈ (prun l i out st).1, FitsI it ∧ AtOk ws it.2.1 it.2.2) ∧ filesOf (prun l i out st).1 = filesOf out ++ stFs st ++ l.filter fun w => !isB w && !isE w
  | [], i, out, none, hd, h, h1, h2, h3 => ⟨h1, by simp [prun, stFs]⟩
  | [], i, out, some (fr, fs, ns), hd, h, h1, h2, h3 => by simp [prun] at h
  | w :: l, i, out, st, hd, h, h1, h2, h3 => by
    have hw : ws[i]? = some w := by
      have := congrArg (fun l : List W => l[0]?) hd
      simpa using this
    have hd' : ws.drop (i + 1) = l := by
      have := congrArg (List.drop 1) hd
      rw [List.drop_drop] at this
      simpa using this
    rw [prun_cons] at h ⊢
    by_cases he : w = []
    · simp [he] at h
    · simp only [if_neg he] at h ⊢
      have hwi : w.isEmpty = false := by simpa using he
      cases st with
      | none =>
        cases hB : isB w with
        | true =>
          simp only [pstep, hB, if_true] at h ⊢
          have ih := law_parsed ws l (i + 1) out (some (i, [], [])) hd' (by simpa using h) h1 (by simp [stFs]) ⟨rfl, by simp [stNs]⟩
          simpa [hB, stFs] using ih
        | false =>
          cases hE : isE w with
          | true => simp [pstep, hB, hE] at h
          | false =>
            have hp : plainW w = true := by simp [plainW, hB, hE, hwi]
            simp only [pstep, hB, hE, if_true, if_false, Bool.false_eq_true] at h ⊢
            have ih := law_parsed ws l (i + 1) (out ++ [(false, [w], [(i : Int)])]) none hd' (by simpa using h) (fun it hit => by
              rcases List.mem_append.1 hit with hit | hit
              · exact h1 it hit
              · simp at hit; subst hit
                exact ⟨⟨.inr ⟨w, rfl⟩, by simpa using hp⟩, (AtOk.snoc (fs := []) (ns := []) ⟨rfl, by simp⟩ hw)⟩) (by simp [stFs]) ⟨rfl, by simp [stNs]⟩
            simpa [hB, hE, stFs, filesOf] using ih
      | some o =>
        obtain ⟨fr, fs, ns⟩ := o
        cases hB : isB w with
        | true => simp [pstep, hB] at h
        | false =>
          cases hE : isE w with
          | true =>
            simp only [pstep, hB, hE, if_true, if_false, Bool.false_eq_true] at h ⊢
            have ih := law_parsed ws l (i + 1) (out ++ [(true, fs, ns)]) none hd' (by simpa using h) (fun it hit => by
              rcases List.mem_append.1 hit with hit | hit
              · exact h1 it hit
              · simp at hit; subst hit
                exact ⟨⟨.inl rfl, h2⟩, h3⟩) (by simp [stFs]) ⟨rfl, by simp [stNs]⟩
            simpa [hB, hE, stFs, filesOf] using ih
          | false =>
            have hp : plainW w = true := by simp [plainW, hB, hE, hwi]
            simp only [pstep, hB, hE, if_true, if_false, Bool.false_eq_true] at h ⊢
            have ih := law_parsed ws l (i + 1) out (some (fr, fs ++ [w], ns ++ [(i : Int)])) hd' (by simpa using h) h1 (fun v hv => by
              simp only [stFs] at hv
              rcases List.mem_append.1 hv with hv | hv
              · exact h2 v hv
              · simp at hv; subst hv; exact hp) (AtOk.snoc h3 hw)
            simpa [hB, hE, stFs] using ih

theorem prun_files : ∀ (fs : List W) (rest : List W) (i fr : Int) (out : List Item) (gs : List W) (ns : List Int), (∀ w ∈ fs, plainW w = true) → ∃ ns', prun (fs ++ rest) i out (some (fr, gs, ns)) = prun rest (i + fs.length) out (some (fr, gs ++ fs, ns'))
  | [], rest, i, fr, out, gs, ns, _ => ⟨ns, by simp⟩
  | w :: fs, rest, i, fr, out, gs, ns, h => by
    have hw := h w (by simp)
    simp only [plainW, Bool.and_eq_true, Bool.not_eq_true'] at hw
    obtain ⟨⟨hB, hE⟩, he⟩ := hw
    have hne : w ≠ [] := by simpa using he
    obtain ⟨ns', e⟩ := prun_files fs rest (i + 1) fr out (gs ++ [w]) (ns ++ [i]) fun v hv => h v (by simp [hv])
    refine ⟨ns', ?_⟩
    rw [List.cons_append, prun_cons, if_neg hne]
    simp only [pstep, hB, hE, if_true, if_false, Bool.false_eq_true]
    rw [e]
    simp only [List.append_assoc, List.singleton_append, List.length_cons]
    congr 1; omega

theorem law_words : ∀ (its : List Item) (i : Int) (out : List Item), (∀ it ∈ its, FitsI it) → (prun (wordsOf its) i out none).2.2 = 0 ∧ (prun (wordsOf its) i out none).1.map (key false) = out.map (key false) ++ its.map (key false)
  | [], i, out, _ => by simp [wordsOf, prun]
  | it :: its, i, out, h => by
    obtain ⟨g, fs, ns⟩ := it
    obtain ⟨h1, h2⟩ := h (g, fs, ns) (by simp)
    simp only at h1 h2
    have hrest := fun (i : Int) (out : List Item) => law_words its i out fun it hit => h it (by simp [hit])
    have hw : wordsOf ((g, fs, ns) :: its) = wd (g, fs, ns) ++ wordsOf its := by simp [wordsOf]
    rw [hw]
    cases g with
    | true =>
      have hwd : wd (true, fs, ns) = bW1 :: fs ++ [eW1] := by simp [wd]
      rw [hwd]
      have hb : isB bW1 = true := by decide
      have he : isE eW1 = true := by decide
      have hb' : isB eW1 = false := by decide
      obtain ⟨ns', e⟩ := prun_files fs (eW1 :: wordsOf its) (i + 1) i out [] [] h2
      have e1 : prun (bW1 :: fs ++ [eW1] ++ wordsOf its) i out none = prun (wordsOf its) (i + 1 + fs.length + 1) (out ++ [(true, fs, ns')]) none := by
        rw [show bW1 :: fs ++ [eW1] ++ wordsOf its = bW1 :: (fs ++ eW1 :: wordsOf its) by simp, prun_cons, if_neg (by decide)]
        simp only [pstep, hb, if_true]
        rw [e, prun_cons, if_neg (by decide)]
        simp [pstep, hb', he]
      rw [e1]
      obtain ⟨q1, q2⟩ := hrest (i + 1 + fs.length + 1) (out ++ [(true, fs, ns')])
      exact ⟨q1, by rw [q2]; simp [key]⟩
    | false =>
      obtain ⟨w, rfl⟩ : ∃ w, fs = [w] := by simpa using h1
      have hp := h2 w (by simp)
      simp only [plainW, Bool.and_eq_true, Bool.not_eq_true'] at hp
      obtain ⟨⟨hB, hE⟩, he⟩ := hp
      have hne : w ≠ [] := by simpa using he
      have e1 : prun (wd (false, [w], ns) ++ wordsOf its) i out none = prun (wordsOf its) (i + 1) (out ++ [(false, [w], [i])]) none := by
        rw [show wd (false, [w], ns) ++ wordsOf its = w :: wordsOf its by simp [wd], prun_cons, if_neg hne]
        simp [pstep, hB, hE]
      rw [e1]
      obtain ⟨q1, q2⟩ := hrest (i + 1) (out ++ [(false, [w], [i])])
      exact ⟨q1, by rw [q2]; simp [key]⟩

theorem law_trip (ws : List W) (h : (pres ws).2.2 = 0) : (pres (wordsOf (pres ws).1)).2.2 = 0 ∧ sameB (pres ws).1 (pres (wordsOf (pres ws).1)).1 false = true ∧ filesOf (pres ws).1 = (ws.filter fun w => !isB w && !isE w) ∧ ∀ it ∈ (pres ws).1, AtOk ws it.2.1 it.2.2 := by
  obtain ⟨h1, h2⟩ := law_parsed ws ws 0 [] none rfl h (by simp) (by simp [stFs]) ⟨rfl, by simp [stNs]⟩
  obtain ⟨h3, h4⟩ := law_words (pres ws).1 0 [] fun it hit => (h1 it hit).1
  refine ⟨h3, ?_, ?_, fun it hit => (h1 it hit).2⟩
  · simp only [sameB, decide_eq_true_eq]
    rw [List.map_nil, List.nil_append] at h4
    exact h4.symm
  · have e : filesOf (pres ws).1 = _ := h2
    rw [e]; simp [filesOf, stFs]
def stW : St → Nat
  | none => 0
  | some (_, fs, _) => fs.length + 1

theorem law_wlen : ∀ (l : List W) (i : Int) (out : List Item) (st : St), (prun l i out st).2.2 = 0 → (wordsOf (prun l i out st).1).length = (wordsOf out).length + stW st + l.length
  | [], i, out, none, h => by simp [prun, stW]
  | [], i, out, some (fr, fs, ns), h => by simp [prun] at h
  | w :: l, i, out, st, h => by
    have hsnoc : ∀ it : Item, (wordsOf (out ++ [it])).length = (wordsOf out).length + (wd it).length := fun it => by simp only [wordsOf, List.flatMap_append, List.length_append]; simp
    rw [prun_cons] at h ⊢
    by_cases he : w = []
    · simp [he] at h
    · simp only [if_neg he] at h ⊢
      cases st with
      | none =>
        cases hB : isB w with
        | true =>
          simp only [pstep, hB, if_true] at h ⊢
          rw [law_wlen l (i + 1) out (some (i, [], [])) h]
          simp only [stW, List.length_cons, List.length_nil]; omega
        | false =>
          cases hE : isE w with
          | true => simp [pstep, hB, hE] at h
          | false =>
            simp only [pstep, hB, hE, if_true, if_false, Bool.false_eq_true] at h ⊢
            rw [law_wlen l (i + 1) _ none h, hsnoc]
            simp only [stW, wd, List.length_cons, List.length_nil, if_false, Bool.false_eq_true]; omega
      | some o =>
        obtain ⟨fr, fs, ns⟩ := o
        cases hB : isB w with
        | true => simp [pstep, hB] at h
        | false =>
          cases hE : isE w with
          | true =>
            simp only [pstep, hB, hE, if_true, if_false, Bool.false_eq_true] at h ⊢
            rw [law_wlen l (i + 1) _ none h, hsnoc]
            simp only [stW, wd, List.length_cons, List.length_append, List.length_nil, if_true]; omega
          | false =>
            simp only [pstep, hB, hE, if_true, if_false, Bool.false_eq_true] at h ⊢
            rw [law_wlen l (i + 1) out _ h]
            simp only [stW, List.length_cons, List.length_append, List.length_nil]; omega

def fileW (w : W) : Bool := !isB w && !isE w

theorem filt_snoc {l : List W} {i : Nat} {w : W} (h : l[i]? = some w) : (l.take (i + 1)).filter fileW = (l.take i).filter fileW ++ (if fileW w then [w] else []) := by
  rw [List.take_add_one, h, List.filter_append]
  congr 1
  cases hf : fileW w <;> simp [hf]

theorem CmdlineRoundTrip_c (ws : List W) (hl : ws.length ≤ 9223372036854775807) (σ : Store) : ACalls E 7 [strs ws] σ fun r σ' => r = .c (.bool true) ∧ σ' = σ := by
  refine ACalls.enter Tryd.func7 rfl Tryd.ntmps7 Tryd.results7 (by simp) fun hσ => ?_
  refine AW.stepL [] [0] fun K hK => ?_
  simp
  refine hK _ _ ?_; clear hK
  refine AW.seqL [0] fun K1 hK1 => ?_
  refine AW.stepL [] [0, 21] fun K hK => ?_
  simp
  refine (awake_c σ).mono ?_
  rintro r σ' ⟨rfl, rfl⟩
  simp
  refine hK _ _ ?_; clear hK
  refine AW.cond (hb := by simp; rfl) (fun hb => ?_) (fun hb => ?_)
  · refine AW.stepL [] [2] fun K hK => ?_
    simp
    refine (awake_c σ').mono ?_
    rintro r σ ⟨rfl, rfl⟩
    simp
    refine hK _ _ ?_; clear hK
    refine AW.ret ?_
    simp
    exact Fin.same (Nat.le_refl _) ⟨rfl, rfl⟩
  · simp at hb
    have hln : ws.length ≤ 200 := by omega
    refine AW.skip ?_
    simp
    refine hK1 _ _ ?_; clear hK1
    refine AW.stepL [] [0, 3, 5] fun K hK => ?_
    simp
    refine (Parse_c ws (by omega) σ').mono ?_
    rintro r σ ⟨rfl, rfl⟩
    simp
    refine hK _ _ ?_; clear hK
    refine AW.seqL [0, 3] fun K2 hK2 => ?_
    refine AW.stepL [] [0, 3, 30] fun K hK => ?_
    by_cases hz : (pres ws).2.2 = 0
    rotate_left
    · have hz' : ((pres ws).2.2 != 0) = true := by simpa using hz
      simp [hz, hz']
      refine hK _ _ ?_; clear hK
      refine AW.cond (b := true) (hb := by simp) (fun _ => ?_) (fun h => nomatch h)
      refine AW.stepL [] [2] fun K hK => ?_
      simp
      refine hK _ _ ?_; clear hK
      refine AW.ret ?_
      simp
      exact Fin.same (Nat.le_refl _) ⟨rfl, rfl⟩
    · simp [hz]
      refine hK _ _ ?_; clear hK
      refine AW.cond (b := false) (hb := by simp) (fun h => nomatch h) (fun _ => ?_)
      refine AW.skip ?_
      simp
      refine hK2 _ _ ?_; clear hK2
      obtain ⟨t1, t2, t3, t4⟩ := law_trip ws hz
      have hsm := pres_small ws (by omega)
      have hple := pres_le ws
      have hwl : (wordsOf (pres ws).1).length = ws.length := by
        have := law_wlen ws 0 [] none hz
        rw [show (wordsOf (pres ws).1).length = (wordsOf (prun ws 0 [] none).1).length from rfl, this]
        simp [wordsOf, stW]
      have hsm2 := pres_small (wordsOf (pres ws).1) (by omega)
      have hfl : (filesOf (pres ws).1).length ≤ ws.length := by rw [t3]; exact List.length_filter_le _ _
      generalize hits : (pres ws).1 = its at *
      generalize hm : pres (wordsOf its) = m at *
      obtain ⟨mi, mn, me⟩ := m
      simp only at t1 t2 hsm2
      subst t1
      refine AW.stepL [] [0, 3, 6, 8] fun K hK => ?_
      simp
      refine (Words_c its hsm.1 (by omega) σ).mono ?_
      rintro r σ' ⟨rfl, rfl⟩
      simp
      refine (Parse_c (wordsOf its) (by omega) σ').mono ?_
      rintro r σ ⟨rfl, rfl⟩
      rw [hm]
      simp
      refine hK _ _ ?_; clear hK
      refine AW.stepL [] [0, 3, 6, 8, 9] fun K hK => ?_
      simp
      refine hK _ _ ?_; clear hK
      refine AW.adopt 9 9 (by simp) (by simp) ?_
      refine AW.only [(0, strs ws), (3, itemsV its), (6, itemsV mi), (8, .c (.int .i64 0)), (9, .rs σ.next 0 0 0)] (by simp) (by simp [Knows]) ?_
      refine AW.seqL [0, 3, 6, 8, 9] fun K3 hK3 => ?_
      refine AW.stepL [] [0, 3, 6, 8, 9, 10] fun K hK => ?_
      simp
      refine hK _ _ ?_; clear hK
      refine AW.block ?_
      refine AW.loopS (ι := Nat × Nat × Store) (fun x => [(0, strs ws), (3, itemsV its), (6, itemsV mi), (8, .c (.int .i64 0)), (9, .rs σ.next x.2.1 0 ((ws.take x.1).filter fileW).length), (10, .c (.int .i64 x.1))]) (fun x => x.2.2)
        (fun x => x.1 ≤ ws.length ∧ σ.next < x.2.2.next ∧ (∀ j, j < σ.next → x.2.2.get j = σ.get j) ∧ x.2.2.get σ.next = some (.arr 9 x.2.1 (((ws.take x.1).filter fileW).map str))) (fun x => ws.length - x.1) (0, 0, _)
        (fun x hx => by have := hx.2.1; omega) ⟨Nat.zero_le _, by simp, fun j hj => by simp [show j ≠ σ.next by omega], by simp⟩ rfl (by simp [Knows]) ?_
      rintro ⟨x, g, s⟩ ⟨hx, hnx, hsame, hO⟩
      simp only at hx hnx hsame hO ⊢
      refine AW.seqL [0, 3, 6, 8, 9, 10] fun K4 hK4 => ?_
      refine AW.stepL [] [0, 3, 6, 8, 9, 10, 41] fun K hK => ?_
      simp
      refine hK _ _ ?_; clear hK
      refine AW.cond (hb := by simp; rfl) (fun hb => ?_) (fun hb => ?_)
      · simp at hb
        obtain ⟨w, hw⟩ := get_ex hb
        have hltI : (x : Int) < ws.length := by omega
        have hsn := filt_snoc hw
        have hfle : ((ws.take x).filter fileW).length ≤ 200 := by
          have h1 := List.length_filter_le fileW (ws.take x)
          have h2 : (ws.take x).length ≤ 200 := by simp; omega
          omega
        have hw1 : IntKind.i64.wrap ((x : Int) + 1) = (x : Int) + 1 := wrap64_id (by omega) (by omega)
        generalize hacc : (ws.take x).filter fileW = acc at *
        refine AW.skip ?_
        simp
        refine hK4 _ _ ?_; clear hK4
        refine AW.seqL [0, 3, 6, 8, 9, 10] fun K5 hK5 => ?_
        refine AW.block ?_
        refine AW.stepL [] [0, 3, 6, 8, 9, 10, 11] fun K hK => ?_
        simp [hw, hltI]
        refine hK _ _ ?_; clear hK
        refine AW.stepL [] [0, 3, 6, 8, 9, 10, 11, 61] fun K hK => ?_
        have main : ∀ t : Bool, t = fileW w → K [(0, strs ws), (3, itemsV its), (6, itemsV mi), (8, .c (.int .i64 0)), (9, .rs σ.next g 0 acc.length), (10, .c (.int .i64 x)), (11, str w), (61, .c (.bool t))] s := by
          intro t ht
          refine hK _ _ ?_; clear hK
          cases t with
          | true =>
            rw [← ht] at hsn
            simp only [if_true] at hsn
            refine AW.cond (b := true) (hb := by simp) (fun _ => ?_) (fun h => nomatch h)
            refine AW.region (ow := []) ?_
            simp [hO]
            refine ⟨by omega, by simp [maxLen]; omega, ?_⟩
            refine hK5 _ _ ?_; clear hK5
            refine AW.region (ow := []) ?_
            simp [hw1]
            refine ⟨x + 1, g + 1, _, ⟨by omega, by simpa using hnx, fun j hj => by simp [show j ≠ σ.next by omega]; exact hsame j hj, ?_⟩, rfl, ?_, by omega⟩
            · rw [hsn]; simp
            · rw [hsn]; simp [Knows]
          | false =>
            rw [← ht] at hsn
            simp only [if_false, Bool.false_eq_true, List.append_nil] at hsn
            refine AW.cond (b := false) (hb := by simp) (fun h => nomatch h) (fun _ => ?_)
            refine AW.skip ?_
            simp
            refine hK5 _ _ ?_; clear hK5
            refine AW.region (ow := []) ?_
            simp [hw1]
            refine ⟨x + 1, g, s, ⟨by omega, hnx, hsame, ?_⟩, rfl, ?_, by omega⟩
            · rw [hsn]; exact hO
            · rw [hsn]; simp [Knows]
        clear hK hK5
        by_cases h1 : w = [45, 40]
        · subst h1
          simp
          exact main false (by decide)
        · have q1 : (w == [45, 40]) = false := by simpa using h1
          by_cases h2 : w = [45, 41]
          · subst h2
            simp
            exact main false (by decide)
          · have q2 : (w == [45, 41]) = false := by simpa using h2
            by_cases h3 : w = [45, 45, 115, 116, 97, 114, 116, 45, 103, 114, 111, 117, 112]
            · subst h3
              simp
              exact main false (by decide)
            · have q3 : (w == [45, 45, 115, 116, 97, 114, 116, 45, 103, 114, 111, 117, 112]) = false := by simpa using h3
              by_cases h4 : w = [45, 45, 101, 110, 100, 45, 103, 114, 111, 117, 112]
              · subst h4
                simp
                exact main false (by decide)
              · have q4 : (w == [45, 45, 101, 110, 100, 45, 103, 114, 111, 117, 112]) = false := by simpa using h4
                simp [h1, h2, h3, h4, q1, q2, q3, q4]
                exact main true (by simp [fileW, isB, isE, bW1, bW2, eW1, eW2, q1, q2, q3, q4])
      · simp at hb
        have hxe : x = ws.length := by omega
        rw [hxe, List.take_length] at hO
        have hacc : ws.filter fileW = filesOf its := t3.symm
        rw [hacc] at hO
        refine AW.exit ?_
        simp
        refine hK3 _ _ ?_; clear hK3
        rw [show ((ws.take x).filter fileW) = filesOf its by rw [hxe, List.take_length]; exact hacc]
        refine AW.seqL [3, 6, 8, 9] fun K6 hK6 => ?_
        refine AW.stepL [] [0, 3, 6, 8, 9, 12] fun K hK => ?_
        simp
        refine hK _ _ ?_; clear hK
        refine AW.block ?_
        refine AW.loopS (ι := Nat) (fun i => [(0, strs ws), (3, itemsV its), (6, itemsV mi), (8, .c (.int .i64 0)), (9, .rs σ.next g 0 (filesOf its).length), (12, .c (.int .i64 i))]) (fun _ => s) (fun i => i ≤ its.length) (fun i => its.length - i) 0 (fun _ _ => by omega) (by simp) rfl (by simp [Knows]) ?_
        rintro i hi
        refine AW.seqL [0, 3, 6, 8, 9, 12] fun K7 hK7 => ?_
        refine AW.stepL [] [0, 3, 6, 8, 9, 12, 69] fun K hK => ?_
        simp
        refine hK _ _ ?_; clear hK
        refine AW.cond (hb := by simp; rfl) (fun hb => ?_) (fun hb => ?_)
        · simp at hb
          obtain ⟨it, hit⟩ := get_ex hb
          obtain ⟨a1, a2⟩ := t4 it (List.mem_of_getElem? hit)
          have hil : (i : Int) < its.length := by omega
          have hw2 : IntKind.i64.wrap ((i : Int) + 1) = (i : Int) + 1 := wrap64_id (by omega) (by omega)
          obtain ⟨sm1, sm2⟩ := hsm.2 it (List.mem_of_getElem? hit)
          obtain ⟨ig, fs, ns⟩ := it
          simp only at a1 a2 sm1 sm2
          refine AW.skip ?_
          simp
          refine hK7 _ _ ?_; clear hK7
          refine AW.seqL [0, 3, 6, 8, 9, 12] fun K8 hK8 => ?_
          refine AW.block ?_
          refine AW.seqL [0, 3, 6, 8, 9, 12] fun K9 hK9 => ?_
          refine AW.stepR [] [0, 3, 6, 8, 9, 12, 84] (by kernel_rfl) (by kernel_rfl) fun K hK => ?_
          simp [hit, hil, itemV, a1]
          refine hK _ _ ?_; clear hK
          refine AW.cond (b := false) (hb := by simp [a1]) (fun h => nomatch h) (fun _ => ?_)
          refine AW.skip ?_
          simp
          refine hK9 _ _ ?_; clear hK9
          refine AW.stepL [] [0, 3, 6, 8, 9, 12, 13] fun K hK => ?_
          simp
          refine hK _ _ ?_; clear hK
          refine AW.block ?_
          refine AW.loopS (ι := Nat) (fun k => [(0, strs ws), (3, itemsV its), (6, itemsV mi), (8, .c (.int .i64 0)), (9, .rs σ.next g 0 (filesOf its).length), (12, .c (.int .i64 i)), (13, .c (.int .i64 k))]) (fun _ => s) (fun k => k ≤ ns.length) (fun k => ns.length - k) 0 (fun _ _ => by omega) (by simp) rfl (by simp [Knows]) ?_
          rintro k hk
          refine AW.seqL [0, 3, 6, 8, 9, 12, 13] fun K10 hK10 => ?_
          refine AW.stepL [] [0, 3, 6, 8, 9, 12, 13, 92] fun K hK => ?_
          simp [hit, hil, itemV]
          refine hK _ _ ?_; clear hK
          refine AW.cond (hb := by simp; rfl) (fun hb2 => ?_) (fun hb2 => ?_)
          · simp at hb2
            obtain ⟨a, ha⟩ := get_ex (l := ns) (i := k) hb2
            obtain ⟨f, hf⟩ := get_ex (l := fs) (i := k) (by omega)
            obtain ⟨b1, b2, b3⟩ := a2 k a f ha hf
            have hkI : (k : Int) < ns.length := by omega
            have hkI2 : (k : Int) < fs.length := by omega
            have hw3 : IntKind.i64.wrap ((k : Int) + 1) = (k : Int) + 1 := wrap64_id (by omega) (by omega)
            have hn1 : ¬ a < 0 := by omega
            have hn2 : ¬ (ws.length : Int) ≤ a := by omega
            refine AW.skip ?_
            simp
            refine hK10 _ _ ?_; clear hK10
            refine AW.seqL [0, 3, 6, 8, 9, 12, 13] fun K11 hK11 => ?_
            refine AW.block ?_
            refine AW.stepL [] [0, 3, 6, 8, 9, 12, 13, 14] fun K hK => ?_
            simp [hit, hil, itemV, ha, hkI]
            refine hK _ _ ?_; clear hK
            refine AW.stepRP [] [0, 3, 6, 8, 9, 12, 13, 125] [0, 3, 6, 8, 9, 12, 13, 14] [[0, 3, 6, 8, 9, 12, 13, 14, 103], [0, 3, 6, 8, 9, 12, 13, 14, 104], [0, 3, 6, 8, 9, 12, 13, 14, 105], [0, 3, 6, 8, 9, 12, 13, 14, 105, 106], [0, 3, 6, 8, 9, 12, 13, 14, 105, 106, 107], [0, 3, 6, 8, 9, 12, 13, 14, 105, 106, 108], [0, 3, 6, 8, 9, 12, 13, 14, 105, 109], [0, 3, 6, 8, 9, 12, 13, 14, 110], [0, 3, 6, 8, 9, 12, 13, 14, 111], [0, 3, 6, 8, 9, 12, 13, 14, 111, 112], [0, 3, 6, 8, 9, 12, 13, 111, 112, 113], [0, 3, 6, 8, 9, 12, 13, 111, 114], [0, 3, 6, 8, 9, 12, 13, 111, 115], [0, 3, 6, 8, 9, 12, 13, 111, 115, 116], [0, 3, 6, 8, 9, 12, 13, 111, 115, 116, 117], [0, 3, 6, 8, 9, 12, 13, 111, 115, 118], [0, 3, 6, 8, 9, 12, 13, 111, 115, 119], [0, 3, 6, 8, 9, 12, 13, 111, 115, 120], [0, 3, 6, 8, 9, 12, 13, 111, 115, 120, 121], [0, 3, 6, 8, 9, 12, 13, 111, 115, 122], [0, 3, 6, 8, 9, 12, 13, 111, 115, 123], [0, 3, 6, 8, 9, 12, 13, 111, 124], [0, 3, 6, 8, 9, 12, 13, 125]] (by kernel_rfl) (by kernel_rfl) (by kernel_rfl) fun K hK => ?_
            simp [hit, hil, itemV, hf, b3, b1, hn1, hn2, hkI2]
            refine hK _ _ ?_; clear hK
            refine AW.cond (b := false) (hb := by simp) (fun h => nomatch h) (fun _ => ?_)
            refine AW.skip ?_
            simp
            refine hK11 _ _ ?_; clear hK11
            refine AW.region (ow := []) ?_
            simp [hw3]
            exact ⟨k + 1, by omega, by simp [Knows], by omega⟩
          · simp at hb2
            refine AW.exit ?_
            simp
            refine hK8 _ _ ?_; clear hK8
            refine AW.region (ow := []) ?_
            simp [hw2]
            exact ⟨i + 1, by omega, by simp [Knows], by omega⟩
        · simp at hb
          refine AW.exit ?_
          simp
          refine hK6 _ _ ?_; clear hK6
          refine AW.stepL [] [2] fun K hK => ?_
          simp
          refine (items_c its hsm.1 s).mono ?_
          rintro r s' ⟨rfl, rfl⟩
          simp
          refine (items_c mi hsm2.1 s').mono ?_
          rintro r s ⟨rfl, rfl⟩
          simp
          refine (Same_c its mi false hsm hsm2 s).mono ?_
          rintro r s' ⟨rfl, rfl⟩
          rw [t2]
          simp
          refine (Files_c its hsm.1 (by omega) s').mono ?_
          rintro r s ⟨rfl, rfl⟩
          simp
          refine ACalls.lend (args' := [strs (filesOf its), strs (filesOf its)]) (below_sub _ σ.next) rfl ?_ ((Texts_c (filesOf its) (filesOf its) (by omega) (by omega) _).mono ?_)
          · intro j u v hu hv
            match j, hu, hv with
            | 0, hu, hv => cases hu; cases hv; exact .refl _
            | 1, hu, hv => cases hu; cases hv; exact SR.row (T := 9) (es := (filesOf its).map str) hO (by simp) (by simp) (by rw [List.drop_zero, List.take_of_length_le (by simp)])
          rintro r s3 ⟨rfl, rfl⟩
          simp
          refine hK _ _ ?_; clear hK
          refine AW.ret ?_
          simp
          refine Fin.c hσ (by simp; omega) (fun j hj => ?_) ⟨rfl, rfl⟩
          simp [hj, hsame j hj]
end Go.Proofs.YtoipkcljmlfobaaDoor
