/- append onto a row that only grows. No condition. -/
import Derived.Test.YtkbklfodaemkoaaDoorAw6
set_option linter.unusedVariables false
set_option linter.unusedSimpArgs false
set_option linter.unnecessarySimpa false
namespace Go.AW
open Go

/-- append onto nothing, or onto a row that only grows. -/
def aAppendL (E : Env) (t u : TypeId) (s x : AV) (σ : Store) (K : AV → Store → Prop) : Prop :=
  (tk E.P u = .str ∨ ∃ e, tk E.P u = .slc e) ∧ match tk E.P t with
    | .slc e => tsz E.P e ≠ 0 ∧ (azero E.P e).ok = true ∧ tsz E.P e = (azero E.P e).cells.length ∧ (match aElems σ x with
      | some news => (∀ a ∈ news, a.cells.length = tsz E.P e) ∧ (match s with
        | .nl => news.length * tby E.P e ≤ 140737488355328 ∧ news.length ≤ maxLen ∧ (news = [] → K .nl σ) ∧ (news ≠ [] → K (.lg σ.next news) (σ.alloc (.log e news.length)))
        | .lg i es => (match σ.get i with
          | some (.log T n) => T = e ∧ n = es.length ∧ (es.length + news.length) * tby E.P e ≤ 140737488355328 ∧ es.length + news.length ≤ maxLen ∧
              K (.lg i (es ++ news)) (σ.set i (.log e (es.length + news.length)))
          | _ => False)
        | _ => False)
      | none => False)
    | _ => False

/-- A new row that only grows. -/
theorem new_log {E : Env} {Γ : Ctx} {σ : Store} {w w' : World} {K : AV → Store → Prop} {e : TypeId} {es : List AV} {xs : Array Value} {fr : Nat × Nat} {c : Nat} (hr : R E Γ σ w)
    (hg : w.grownBy w' none) (hh : w'.heap[w.heap.size]? = some (.cells xs e fr)) (hfr : fr.1 = fr.2 ∨ xs.size ≤ fr.1 ∧ tsz E.P e = 1) (hs : ∀ x ∈ es, x.cells.length = tsz E.P e)
    (hrow0 : ∀ (k : Nat) (y : AV) (j : Nat) (x : AV), es[k]? = some y → y.cells[j]? = some x → ∃ u, xs[k * tsz E.P e + j]? = some u ∧ u.oneCell' = true ∧ VR Γ w x u)
    (hsz : xs.size = c * tsz E.P e) (h1 : es.length ≤ c) (h2 : c ≤ maxLen) (h : K (.lg σ.next es) (σ.alloc (.log e es.length))) : Res E Γ w K (.slice (some ⟨w.heap.size, 0, none⟩) es.length c) w' := by
  have key : ∀ (hx : ExtN Γ.next Γ w (Γ.alloc ⟨some w.heap.size, tsz E.P e, c, es.length, some (es.length * tsz E.P e)⟩) w'),
      ObjRel E.P (Γ.alloc ⟨some w.heap.size, tsz E.P e, c, es.length, some (es.length * tsz E.P e)⟩) w' (.log e es.length) ⟨some w.heap.size, tsz E.P e, c, es.length, some (es.length * tsz E.P e)⟩ :=
    fun hx => ⟨rfl, rfl, h1, h2, xs, fr, hh, hfr, hsz⟩
  obtain ⟨hx', hR⟩ := hr.new hg (.inr ⟨_, rfl, Nat.le_refl _⟩) rfl key
  refine ⟨_, _, _, hx', hR, ?_, h⟩
  have hrow : ∀ (k : Nat) (y : AV) (j : Nat) (x : AV), es[k]? = some y → y.cells[j]? = some x → ∃ u, xs[k * tsz E.P e + j]? = some u ∧ u.oneCell' = true ∧ VR (Γ.alloc ⟨some w.heap.size, tsz E.P e, c, es.length, some (es.length * tsz E.P e)⟩) w' x u := fun k y j x hk hj => by
    obtain ⟨u, a1, a2, a3⟩ := hrow0 k y j x hk hj
    exact ⟨u, a1, a2, a3.ext hx'⟩
  refine .lg σ.next es _ ?_ ?_ ?_
  · have hus : ∃ f : Nat → Nat → Value, ∀ (k : Nat) (y : AV) (j : Nat) (x : AV), es[k]? = some y → y.cells[j]? = some x → xs[k * tsz E.P e + j]? = some (f k j) ∧ (f k j).oneCell' = true ∧ VR (Γ.alloc ⟨some w.heap.size, tsz E.P e, c, es.length, some (es.length * tsz E.P e)⟩) w' x (f k j) := by
      refine ⟨fun k j => xs.getD (k * tsz E.P e + j) Go.undef, fun k y j x hk hj => ?_⟩
      obtain ⟨u, a1, a2, a3⟩ := hrow k y j x hk hj
      have : xs.getD (k * tsz E.P e + j) Go.undef = u := by simp [Array.getD_eq_getD_getElem?, a1]
      simp only [this]
      exact ⟨a1, a2, a3⟩
    obtain ⟨f, hf⟩ := hus
    refine .ps es _ c w.heap.size 0 f h1 (fun _ => ⟨rfl, (Array.getElem?_eq_some_iff.1 hh).1⟩) ?_ (fun k y j x hk hj => (hf k y j x hk hj).2.1) (fun k y j x hk hj => (hf k y j x hk hj).2.2)
    intro k y j x hk hj
    have hyl := hs y (List.mem_of_getElem? hk)
    rw [hyl]
    refine ⟨by simp [World.cell?, hh, (hf k y j x hk hj).1], ?_⟩
    intro i l hi hb
    simp only [Ctx.alloc] at hi
    split at hi
    · cases hi
      refine ⟨_, rfl, ?_⟩
      have hjl : j < tsz E.P e := by rw [← hyl]; exact (List.getElem?_eq_some_iff.1 hj).1
      have hkl := (List.getElem?_eq_some_iff.1 hk).1
      have : (k + 1) * tsz E.P e ≤ es.length * tsz E.P e := Nat.mul_le_mul_right _ hkl
      rw [Nat.succ_mul] at this
      omega
    · have := hr.blk_lt ⟨i, l, hi, hb⟩
      omega
  · refine .rs σ.next es.length 0 es.length _ c (by simp [Ctx.alloc, hr.next]) h1 ?_
    intro l hl
    simp [Ctx.alloc, hr.next] at hl
    subst hl
    exact ⟨Nat.le_refl _, fun _ => ⟨by simp, .inr (by simp), fun _ => rfl⟩⟩
  · intro l hl _ x hx
    simp [Ctx.alloc, hr.next] at hl
    subst hl
    exact hs x hx

theorem aAppendL_ok {E : Env} {Γ : Ctx} {σ : Store} {w : World} {t u ty : TypeId} {s x : AV} {sv xv : Value} {K : AV → Store → Prop} (hr : R E Γ σ w) (hsv : VR Γ w s sv) (hxv : VR Γ w x xv)
    (h : aAppendL E t u s x σ K) : ∃ v w', (Builtin.append_ #[t, u] ty #[sv, xv]).run E.P w = .ok v w' ∧ Res E Γ w K v w' := by
  obtain ⟨hu', h⟩ := h
  have hu : E.P.underlying u = some .string ∨ ∃ e', E.P.underlying u = some (.slice e') := by
    rcases hu' with hu' | ⟨e, hu'⟩
    · exact .inl (tk_str hu')
    · exact .inr ⟨e, tk_slc hu'⟩
  split at h
  · rename_i e ht'
    have ht := tk_slc ht'
    obtain ⟨hnz, hzok, hzs, h⟩ := h
    obtain ⟨i, hi, hsize⟩ : ∃ i, E.P.info? e = some i ∧ i.size = tsz E.P e := by
      unfold tsz cellsOf' at *
      cases hi : E.P.info? e with
      | none => simp [hi] at hnz
      | some i => exact ⟨i, rfl, by simp⟩
    have hby : tby E.P e = i.bytes := by simp [tby, hi]
    obtain ⟨z, hz, hzv⟩ : ∃ z, i.zero = some z ∧ VR Γ w (azero E.P e) z := by
      unfold azero tzero at *
      cases hzz : i.zero with
      | none => simp [hi, hzz, AV.ok] at hzok
      | some z => exact ⟨z, rfl, by simpa [hi, hzz] using VR.ofV Γ w z⟩
    have hzsz : z.cells.size = tsz E.P e := by rw [hzs]; exact ((hzv.cells hzok).1).symm
    split at h
    · rename_i news hel
      obtain ⟨hns, h⟩ := h
      have hlen := fun w' => run_lenOf (E := E) hxv hel w'
      obtain ⟨us, husc, hnew⟩ := run_firstCells hr hxv hel hns
      have husl : us.length = news.length * tsz E.P e := by rw [husc.1, flat_length hns]
      split at h
      · -- nothing yet
        obtain ⟨hb, hm, h0, h1⟩ := h
        obtain ⟨a, rfl⟩ : ∃ a, sv = .slice a 0 0 := by cases hsv; exact ⟨_, rfl⟩
        by_cases hne : news = []
        · subst hne
          have : us = [] := List.eq_nil_of_length_eq_zero (by simpa using husl)
          subst this
          exact ⟨_, _, run_append_zero ht hu hi hsize (by simpa using hlen) (by simpa using hnew) (Nat.le_refl 0), Res.same hr hsv (h0 rfl)⟩
        · have hpos : 0 < news.length := by
            cases news with
            | nil => exact absurd rfl hne
            | cons _ _ => simp
          rcases run_append_gen (ty := ty) (cap := 0) (n := 0) (a := a) (olds := []) ht hu hi hz hsize hlen hnew husl husc.2.1 (fun w' _ => by cases a <;> simp [Builtin.firstCells, loadCells, loadCellsFrom]) (by simp) (Nat.le_refl 0)
            (fun hh => by omega) (by simpa using hm) (by rw [← hby]; simpa using hb) with ⟨hh, _⟩ | ⟨c, c1, c2, hrun⟩
          · omega
          · simp only [Nat.zero_add] at hrun c1
            refine ⟨_, _, hrun, ?_⟩
            refine new_log hr (grown_of_drew_alloc w _ none) (heap_alloc_new w.drew _) (.inl rfl) hns (row_rel (ExtN.refl Γ w (Nat.le_refl _)) hns husc ?_) ?_ c1 c2 (h1 hne)
            · intro m v hv
              simp only [Array.getElem?_append, List.size_toArray, List.length_nil, Nat.not_lt_zero, if_false, Nat.sub_zero, List.getElem?_toArray]
              rw [if_pos (List.getElem?_eq_some_iff.1 hv).1]; exact hv
            · simp only [Array.size_append, List.size_toArray, size_zeroCells, hzsz, husl, List.length_nil]
              rw [Nat.zero_add, ← Nat.add_mul]; congr 1; omega
      · -- a row
        rename_i ii es
        split at h
        · rename_i T n hget
          obtain ⟨rfl, rfl, hb, hm, h⟩ := h
          obtain ⟨l, hl, ho, hlt⟩ := hr.loc hget
          have hlim := hr.lims _ _ _ hget hl
          cases hsv with
          | lg _ _ _ hps hrs hsz3 =>
          obtain ⟨a, cap, rfl, hin, hlc, hat⟩ := hrs.rs_inv
          simp only [ObjRel] at ho
          obtain ⟨o1, o2, o4, o5, o6⟩ := ho
          have hat' := (hat l hl).2 o1
          have hsz : l.sz = tsz E.P T := o2
          have hes : ∀ x ∈ es, x.cells.length = tsz E.P T := fun x hx => by rw [← hsz]; exact hsz3 l hl o1 x hx
          have hlim' : l.lim = some (es.length * tsz E.P T) := by rw [hlim, ← hsz]; rfl
          have hall : ∀ x ∈ es ++ news, x.cells.length = tsz E.P T := fun x hx => by
            rcases List.mem_append.1 hx with hx | hx
            · exact hes x hx
            · exact hns x hx
          obtain ⟨olds, ho1, ho2⟩ := run_firstCells (x := .ps es) (es := es) hr hps (by simp [aElems]) hes
          have holl : olds.length = es.length * tsz E.P T := by rw [ho1.1, flat_length hes]
          -- the row as it is read afterwards
          have hread : ∀ (w' : World) (l' : Loc) (hx : ExtN Γ.next Γ w (Γ.set ii l') w') (b : Nat) (ys : Array Value) (fr : Nat × Nat) (cap' : Nat), l'.blk = some b → l'.lim = some ((es.length + news.length) * tsz E.P T) → w'.heap[b]? = some (.cells ys T fr) →
              (∀ (m : Nat) (v : Value), (olds ++ us)[m]? = some v → ys[m]? = some v) → es.length + news.length ≤ cap' → (∀ j lj, j ≠ ii → Γ.get j = some lj → lj.blk ≠ some b) → VR (Γ.set ii l') w' (.ps (es ++ news)) (.slice (some ⟨b, 0, none⟩) (es.length + news.length) cap') := by
            intro w' l' hx b ys fr cap' hbl hlm hh hys hcap hoth
            have hrow := row_rel hx hall (us := olds ++ us) (by rw [flat_append]; exact ho1.append husc) hys
            obtain ⟨f, hf⟩ : ∃ f : Nat → Nat → Value, ∀ (k : Nat) (y : AV) (j : Nat) (x : AV), (es ++ news)[k]? = some y → y.cells[j]? = some x → ys[k * tsz E.P T + j]? = some (f k j) ∧ (f k j).oneCell' = true ∧ VR (Γ.set ii l') w' x (f k j) := by
              refine ⟨fun k j => ys.getD (k * tsz E.P T + j) Go.undef, fun k y j x hk hj => ?_⟩
              obtain ⟨v, a1, a2, a3⟩ := hrow k y j x hk hj
              have : ys.getD (k * tsz E.P T + j) Go.undef = v := by simp [Array.getD_eq_getD_getElem?, a1]
              simp only [this]
              exact ⟨a1, a2, a3⟩
            have := VR.ps (Γ := Γ.set ii l') (w := w') (es ++ news) (some ⟨b, 0, none⟩) cap' b 0 f (by simpa using hcap) (fun _ => ⟨rfl, (Array.getElem?_eq_some_iff.1 hh).1⟩) (by
              intro k y j x hk hj
              have hyl := hall y (List.mem_of_getElem? hk)
              rw [hyl]
              refine ⟨by simp [World.cell?, hh, (hf k y j x hk hj).1], ?_⟩
              intro i2 l2 hi2 hb2
              simp only [Ctx.set] at hi2
              split at hi2
              · cases hi2
                refine ⟨_, hlm, ?_⟩
                have hjl : j < tsz E.P T := by rw [← hyl]; exact (List.getElem?_eq_some_iff.1 hj).1
                have hkl := (List.getElem?_eq_some_iff.1 hk).1
                rw [List.length_append] at hkl
                have : (k + 1) * tsz E.P T ≤ (es.length + news.length) * tsz E.P T := Nat.mul_le_mul_right _ hkl
                rw [Nat.succ_mul] at this
                omega
              · rename_i hne; exact absurd hb2 (hoth i2 l2 hne hi2)) (fun k y j x hk hj => (hf k y j x hk hj).2.1) (fun k y j x hk hj => (hf k y j x hk hj).2.2)
            simpa using this
          by_cases hne : news = []
          · subst hne
            have : us = [] := List.eq_nil_of_length_eq_zero (by simpa using husl)
            subst this
            refine ⟨_, _, run_append_zero ht hu hi hsize (by simpa using hlen) (by simpa using hnew) hlc, ?_⟩
            simp only [List.append_nil, List.length_nil, Nat.add_zero] at h
            have hsame : σ.set ii (.log T es.length) = σ := by
              unfold Store.set
              cases σ with
              | mk gt nx =>
                simp only [Store.mk.injEq, and_true]
                funext j
                split
                · rename_i e; subst e; exact hget.symm
                · rfl
            rw [hsame] at h
            exact Res.same hr (.lg ii es _ hps hrs hsz3) h
          · have hpos : 0 < news.length := by
              cases news with
              | nil => exact absurd rfl hne
              | cons _ _ => simp
            have hrow : es.length + news.length ≤ cap → ∀ ad, a = some ad → ∃ b xs fr, ad = ⟨b, 0, none⟩ ∧ w.heap[b]? = some (.cells xs T fr) ∧ (fr.1 = fr.2 ∨ xs.size ≤ fr.1) ∧ xs.size = cap * tsz E.P T := by
              intro hroom ad had
              unfold Loc.rsAt at hat'
              cases hb' : l.blk with
              | none => simp only [hb'] at hat'; omega
              | some b =>
                simp only [hb'] at hat' o6
                obtain ⟨a1, a2, a3⟩ := hat'
                have := a3 (by first | rfl | trivial)
                rw [this] at had; cases had
                obtain ⟨xs, fr, q1, q2, q3⟩ := o6
                exact ⟨b, xs, fr, rfl, q1, q2.imp id And.left, by rw [q3, hsz]; congr 1; omega⟩
            rcases run_append_gen (ty := ty) (cap := cap) (n := es.length) (a := a) (olds := olds) ht hu hi hz hsize hlen hnew husl husc.2.1 ho2 holl hlc hrow hm (by rw [← hby]; exact hb) with ⟨hroom, hrun⟩ | ⟨c, c1, c2, hrun⟩
            · -- in place
              refine ⟨_, _, hrun, ?_⟩
              unfold Loc.rsAt at hat'
              cases hb' : l.blk with
              | none => simp only [hb'] at hat'; omega
              | some b =>
                simp only [hb'] at hat' o6
                obtain ⟨a1, a2, a3⟩ := hat'
                have had := a3 (by first | rfl | trivial)
                subst had
                obtain ⟨xs, fr, q1, q2, q3⟩ := o6
                have hcap : cap = l.cap := by omega
                have hin' : inPlace w (some ⟨b, 0, none⟩) (es.length * tsz E.P T) us = w.setRow b (xs.toList.take (es.length * tsz E.P T) ++ us ++ xs.toList.drop (es.length * tsz E.P T + us.length)).toArray := by
                  simp only [inPlace, q1]
                rw [hin']
                have hfit : es.length * tsz E.P T + us.length ≤ xs.size := by
                  rw [husl, q3, ← hcap, hsz, ← Nat.add_mul]; exact Nat.mul_le_mul_right _ hroom
                have hh := setRow_heap w b xs (xs.toList.take (es.length * tsz E.P T) ++ us ++ xs.toList.drop (es.length * tsz E.P T + us.length)).toArray T fr q1
                have hys0 : ∀ (m : Nat), m < es.length * tsz E.P T → (xs.toList.take (es.length * tsz E.P T) ++ us ++ xs.toList.drop (es.length * tsz E.P T + us.length)).toArray[m]? = xs[m]? := by
                  intro m hm
                  simp only [List.getElem?_toArray]
                  rw [splice_get xs.toList us (es.length * tsz E.P T) m (by simpa using hfit), if_pos hm]
                  simp
                have hold0 : ∀ (m : Nat) (v : Value), olds[m]? = some v → xs[m]? = some v := by
                  intro m v hv
                  cases hps with
                  | ps _ _ _ pb po pus phc pha phw ph1 ph =>
                    have hml := (List.getElem?_eq_some_iff.1 hv).1
                    rw [holl] at hml
                    have hpos2 : 0 < es.length := by
                      rcases Nat.eq_zero_or_pos es.length with h0 | h0
                      · rw [h0] at hml; omega
                      · exact h0
                    have hne2 : es ≠ [] := by intro e0; subst e0; simp at hpos2
                    obtain ⟨e1, e2⟩ := pha hne2
                    cases e1
                    have hf1 := ho2 w rfl
                    have hsome : ∀ (us' : List Value), us'.length = es.length * tsz E.P T → (∀ (j : Nat) (v : Value), us'[j]? = some v → w.cell? ((⟨b, 0, none⟩ : Addr).add j) = some v) → us' = olds := by
                      intro us' h1 h2
                      have := run_firstCells_some (P := E.P) w (tsz E.P T) es.length ⟨b, 0, none⟩ es.length cap us' h1 h2
                      rw [hf1] at this
                      cases this
                      rfl
                    have hx := hsome (xs.toList.take (es.length * tsz E.P T)) (by simp; omega) (by
                      intro j v hv
                      rw [addr_add]
                      rw [List.getElem?_take] at hv
                      split at hv
                      · simpa [World.cell?, q1] using hv
                      · cases hv)
                    rw [← hx, List.getElem?_take, if_pos hml] at hv
                    simpa using hv
                obtain ⟨hx', hR⟩ := hr.upd (w' := w.setRow b (xs.toList.take (es.length * tsz E.P T) ++ us ++ xs.toList.drop (es.length * tsz E.P T + us.length)).toArray) hget hl (l' := { l with gen := es.length + news.length, lim := some ((es.length + news.length) * tsz E.P T) }) (o' := .log T (es.length + news.length))
                  ⟨rfl, rfl, rfl, by simp, fun j _ hj => setRow_other w b j _ (fun e => hj (by rw [hb', e]))⟩ (.inr (by show l.gen < es.length + news.length; omega)) (.inl rfl) (by
                    intro b2 m hb2 hm
                    rw [hb'] at hb2; cases hb2
                    rw [hlim'] at hm; cases hm
                    refine ⟨fun k v hk hv => ?_, fun _ => ⟨_, rfl, Nat.mul_le_mul_right _ (by omega)⟩⟩
                    simp only [World.cell?, q1] at hv
                    simp only [World.cell?, hh, hys0 k hk]
                    exact hv) (by show some _ = some _; rw [hsz]) (by
                    intro hx
                    refine ⟨rfl, o2, by show _ ≤ l.cap; omega, o5, ?_⟩
                    simp only [hb']
                    refine ⟨_, fr, hh, ?_, ?_⟩
                    · rcases q2 with q2 | q2
                      · exact .inl q2
                      · right; simp; omega
                    · simp; omega)
                refine ⟨_, _, _, hx', hR, ?_, h⟩
                refine .lg ii _ _ (hread _ _ hx' b _ fr cap hb' rfl hh ?_ hroom ?_) ?_ (fun l2 hl2 _ x hx => by simp [Ctx.set] at hl2; subst hl2; rw [hall x hx]; exact hsz.symm)
                · intro m v hv
                  by_cases hml : m < es.length * tsz E.P T
                  · rw [hys0 m hml]
                    rw [List.getElem?_append_left (by omega)] at hv
                    exact hold0 m v hv
                  · rw [List.getElem?_append_right (by omega), holl] at hv
                    simp only [List.getElem?_toArray]
                    rw [splice_get xs.toList us (es.length * tsz E.P T) m (by simpa using hfit), if_neg hml, if_pos (by have := (List.getElem?_eq_some_iff.1 hv).1; omega)]
                    exact hv
                · intro j lj hj hlj hbj
                  exact hj (hr.inj j ii lj l b hlj hl hbj hb')
                · simp only [List.length_append]
                  refine .rs ii _ 0 _ _ cap (by simpa [Ctx.set] using hin) hroom ?_
                  intro l2 hl2
                  simp [Ctx.set] at hl2
                  subst hl2
                  refine ⟨Nat.le_refl _, fun _ => ?_⟩
                  unfold Loc.rsAt
                  simp only [hb']
                  exact ⟨by omega, .inr (by simp), by simp⟩
            · -- in a new row
              refine ⟨_, _, hrun, ?_⟩
              have hys : ∀ (m : Nat) (v : Value), (olds ++ us)[m]? = some v → (olds.toArray ++ (us.toArray ++ Builtin.zeroCells z.cells (c - (es.length + news.length))))[m]? = some v := by
                intro m v hv
                have hml := (List.getElem?_eq_some_iff.1 hv).1
                simp only [Array.getElem?_append, List.size_toArray, List.getElem?_toArray]
                rw [List.getElem?_append] at hv
                split
                · rw [if_pos (by assumption)] at hv; exact hv
                · rw [if_neg (by assumption)] at hv
                  rw [if_pos (by rw [List.length_append] at hml; omega)]
                  exact hv
              obtain ⟨hx', hR⟩ := hr.upd (w' := w.drew.alloc (.cells (olds.toArray ++ (us.toArray ++ Builtin.zeroCells z.cells (c - (es.length + news.length)))) T)) hget hl (l' := ⟨some w.heap.size, tsz E.P T, c, es.length + news.length, some ((es.length + news.length) * tsz E.P T)⟩) (o' := .log T (es.length + news.length))
                (grown_of_drew_alloc w _ _) (.inr (by show l.gen < es.length + news.length; omega)) (.inr ⟨_, rfl, Nat.le_refl _⟩) (by
                  intro b2 m hb2 hm
                  have hlt2 := hr.blk_lt ⟨ii, l, hl, hb2⟩
                  refine ⟨fun k v hk hv => ?_, fun e => ?_⟩
                  · rw [World.cell?_of_block (w := w) ((grown_of_drew_alloc w _ none).block b2 hlt2 (by simp))]; exact hv
                  · simp only [Option.some.injEq] at e; omega) rfl (by
                  intro hx
                  refine ⟨rfl, rfl, c1, c2, _, (0, 0), heap_alloc_new w.drew _, .inl rfl, ?_⟩
                  simp only [Array.size_append, List.size_toArray, size_zeroCells, hzsz, husl, holl]
                  rw [← Nat.add_mul, ← Nat.add_mul]; congr 1; omega)
              refine ⟨_, _, _, hx', hR, ?_, h⟩
              refine .lg ii _ _ (hread _ _ hx' w.heap.size _ (0, 0) c rfl rfl (heap_alloc_new w.drew _) hys c1 ?_) ?_ (fun l2 hl2 _ x hx => by simp [Ctx.set] at hl2; subst hl2; exact hall x hx)
              · intro j lj hj hlj hbj
                have := hr.blk_lt ⟨j, lj, hlj, hbj⟩
                omega
              · simp only [List.length_append]
                refine .rs ii _ 0 _ _ c (by simpa [Ctx.set] using hin) c1 ?_
                intro l2 hl2
                simp [Ctx.set] at hl2
                subst hl2
                exact ⟨Nat.le_refl _, fun _ => ⟨by simp, .inr (by simp), fun _ => rfl⟩⟩
        · exact h.elim
      · exact h.elim
    · exact h.elim
  · exact h.elim
end Go.AW
