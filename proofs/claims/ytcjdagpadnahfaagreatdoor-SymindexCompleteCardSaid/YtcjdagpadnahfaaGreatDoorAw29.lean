/- The same program, more of its variables known. No condition. -/
import Derived.Test.YtcjdagpadnahfaaGreatDoorGD
set_option linter.unusedVariables false
set_option linter.unusedSimpArgs false
set_option linter.unnecessarySimpa false
namespace Go.AW
open Go
/-- The same program, whose variables hold this. -/
def Env.gl (E : Env) (G : Nat → Option (List AV)) : Env := { E with G := G }
section
variable {E : Env} {G : Nat → Option (List AV)}
@[simp] theorem gl_P : (E.gl G).P = E.P := rfl
@[simp] theorem gl_G : (E.gl G).G = G := rfl
@[simp] theorem gl_pan : (E.gl G).pan = E.pan := rfl
theorem R.of_gl (hG : ∀ g cs, E.G g = some cs → G g = some cs) {Γ : Ctx} {σ : Store} {w : World} (h : R (E.gl G) Γ σ w) : R E Γ σ w :=
  ⟨h.next, h.dom, h.bnd, h.inj, h.objs, fun g cs hg => h.glob g cs (hG g cs hg), fun g cs m hg => h.gbel g cs m (hG g cs hg), h.base, h.lims⟩
theorem ACalls.gl (hG : ∀ g cs, E.G g = some cs → G g = some cs) {f : FuncId} {args : List AV} {σ : Store} {Q : AV → Store → Prop} (h : ACalls E f args σ Q) : ACalls (E.gl G) f args σ Q := by
  intro Γ w vs hr hv
  refine (h Γ w vs (hr.of_gl hG) hv).mono ?_
  rintro e w' (⟨v, rfl, Γ', a, σ', h1, h2, h3, h4⟩ | ⟨v, rfl, Γ', a, σ', h1, h2, h3, h4⟩)
  · exact .inl ⟨v, rfl, Γ', a, σ', h1, ⟨h2.next, h2.dom, h2.bnd, h2.inj, h2.objs, fun g cs hg => (hr.glob g cs hg).ext h1, hr.gbel, h2.base, h2.lims⟩, h3, h4⟩
  · exact .inr ⟨v, rfl, Γ', a, σ', h1, ⟨h2.next, h2.dom, h2.bnd, h2.inj, h2.objs, fun g cs hg => (hr.glob g cs hg).ext h1, hr.gbel, h2.base, h2.lims⟩, h3, h4⟩
theorem Pur.gl (hG : ∀ g cs, E.G g = some cs → G g = some cs) {f : FuncId} {args : List AV} {r : AV} (h : Pur E f args r) : Pur (E.gl G) f args r := fun σ => (h σ).gl hG
end
/-- A library's contract about two rows of bytes, the first of which is not empty. -/
theorem Pur.lib2 {E : Env} {k : FuncId} {v : Value} {s t : List UInt8} (hs : s ≠ []) (ht : t ≠ []) (hv : v.oneCell' = true)
    (h : ∀ Γ σ w (a1 a2 : Addr) (c1 c2 : Nat), R E Γ σ w → s.length ≤ c1 → (∀ i, i < s.length → w.cell? (a1.add i) = some (.int .u8 (s.getD i 0).toNat)) → (∀ i, i < t.length → w.cell? (a2.add i) = some (.int .u8 (t.getD i 0).toNat)) →
      Calls E.P k #[.slice (some a1) s.length c1, .slice (some a2) t.length c2] w fun e w' => e = .returned v ∧ w.grownBy w' none) : Pur E k [.ps (s.map byteV), .ps (t.map byteV)] (.c v) := by
  have cells : ∀ {Γ : Ctx} {w : World} {l : List UInt8} {x : Value}, l ≠ [] → VR Γ w (.ps (l.map byteV)) x → ∃ a c, x = .slice (some a) l.length c ∧ l.length ≤ c ∧ ∀ i, i < l.length → w.cell? (a.add i) = some (.int .u8 (l.getD i 0).toNat) := by
    intro Γ w l x hl hx
    cases hx with
    | ps _ a cap b o us hc ha hw h1 hh =>
      obtain ⟨rfl, hb⟩ := ha (by simpa using hl)
      refine ⟨⟨b, o, none⟩, cap, by simp, by simpa using hc, fun i hi => ?_⟩
      obtain ⟨y, hy⟩ : ∃ y, l[i]? = some y := ⟨_, List.getElem?_eq_getElem hi⟩
      have hm : (l.map byteV)[i]? = some (byteV y) := by simp [hy]
      have k1 := (hw i _ 0 _ hm rfl).1
      have k2 := hh i _ 0 _ hm rfl
      generalize us i 0 = u at k1 k2
      cases k2
      simp [AV.cells, byteV] at k1
      simp [Addr.add, List.getD, hy]
      split
      · rename_i h0; subst h0; exact k1
      · exact k1
  intro σ Γ w vs hr hvs
  obtain ⟨h1, h2⟩ := hvs
  match vs, h1 with
  | ⟨[x, y]⟩, _ =>
    have e1 := h2 0 _ x rfl rfl
    have e2 := h2 1 _ y rfl rfl
    obtain ⟨a1, c1, rfl, hc1, k1⟩ := cells hs e1
    obtain ⟨a2, c2, rfl, hc2, k2⟩ := cells ht e2
    refine (h Γ σ w a1 a2 c1 c2 hr hc1 k1 k2).mono ?_
    rintro e w' ⟨rfl, hg⟩
    obtain ⟨h1, h2⟩ := hr.same_ctx hg
    exact .inl ⟨v, rfl, Γ, .c v, σ, h1, h2, .c v hv, rfl, rfl⟩
/-- What a round leaves is a store in order. -/
theorem AYield.bel {E : Env} {b : Nat} {args : List AV} {σ : Store} {K : AV → Store → Prop} (h : AYield E b args σ K) : AYield E b args σ fun a s => K a s ∧ StoreBel s := by
  intro Γ w vs hr hv
  obtain ⟨fn, tmps, assign, body, h1, h2⟩ := h Γ w vs hr hv
  refine ⟨fn, tmps, assign, body, h1, h2.mono ?_⟩
  rintro e w' (⟨v, rfl, Γ', a, σ', h1, h2, h3, h4⟩ | ⟨v, rfl, Γ', a, σ', h1, h2, h3, h4⟩)
  · exact .inl ⟨v, rfl, Γ', a, σ', h1, h2, h3, h4, h2.storeBel⟩
  · exact .inr ⟨v, rfl, Γ', a, σ', h1, h2, h3, h4⟩
/-- A closure over one cell that is written no more: the cell is written down frozen. -/
theorem ACalls.frzFn {E : Env} {k : FuncId} {args : List AV} {σ : Store} {F : Fn} {T : TypeId} {e : AV} (hb : ∀ x ∈ e.cells, Bel σ.next x)
    (h : ACalls E k args σ fun r s => r = .fn F [] [.rp σ.next 0 0 0] ∧ s = σ.alloc (.arr T 0 [e])) : ACalls E k args σ fun r s => r = .fn F [] [.pp e.cells] ∧ s = σ := by
  intro Γ w vs hr hv
  refine (h Γ w vs hr hv).mono ?_
  rintro x w' (⟨v, rfl, Γ', a, s, h1, h2, h3, rfl, rfl⟩ | h)
  · have hf : Forget σ.next (σ.alloc (.arr T 0 [e])) σ := ⟨Nat.le_refl _, by simp, fun i o ho => by
      have := hr.storeBel i o ho
      simp [show ¬ i = σ.next by omega, ho], .inr hr.storeBel⟩
    obtain ⟨Γ2, k1, k2, k3⟩ := hf.ctx h2
    rw [← hr.next] at k1
    refine .inl ⟨_, rfl, Γ2, _, σ, h1.trans k1, k2, ?_, rfl, rfl⟩
    cases h3 with
    | fn _ _ _ xs ys hx hy hh hh' =>
      refine .fn _ _ _ xs ys hx (by simpa using hy) (fun j a x ha => by simp at ha) fun j a y ha hyj => ?_
      cases j with
      | succ j => simp at ha
      | zero =>
        simp at ha; subst ha
        refine k3 _ _ _ (hh' 0 _ y rfl hyj) (.rp σ.next 0 0 0 T [e] e e.cells (by simp) ?_ rfl (by simp) fun j x y hx hy => ?_) (.inr (.pp _ hb))
        · exact hr.bnd _ (Nat.le_refl _)
        · rw [List.drop_zero] at hx
          rw [hx] at hy; cases hy
          exact .refl _
  · exact .inr h
/-- Behind a round after which more is known. -/
def rndP (Y : AObj) (T : Store) (p : Prop) (Q : Kn) (f : Nat → AV) : Kn := fun e _ s => match e with
  | .normal => Below (T.alloc Y) s ∧ p
  | .ret => outE Y T.next Q f .ret s
  | .exit id => outE Y T.next Q f (.exit id) s
  | .goto _ => False
@[simp ↓] theorem rndP_normal (Y : AObj) (T : Store) (p : Prop) (Q : Kn) (f f' : Nat → AV) (s : Store) : rndP Y T p Q f .normal f' s = (Below (T.alloc Y) s ∧ p) := (rfl)
@[simp ↓] theorem rndP_ret (Y : AObj) (T : Store) (p : Prop) (Q : Kn) (f f' : Nat → AV) (s : Store) : rndP Y T p Q f .ret f' s = outE Y T.next Q f .ret s := (rfl)
@[simp ↓] theorem rndP_exit (Y : AObj) (T : Store) (p : Prop) (Q : Kn) (f f' : Nat → AV) (s : Store) (i : Nat) : rndP Y T p Q f (.exit i) f' s = outE Y T.next Q f (.exit i) s := (rfl)
section
variable {E : Env} {n N : Nat} {ow lv : List Nat} {g : Operand} {ps : Array Tmp} {a b : ACode} {f : Nat → AV} {σ : Store} {Q : Kn}
/-- The statement 'for .. := range g' over a function whose items are known; what is known at each round. -/
theorem range_itP (hm : E.P.follows .mixedOrders = true) (hda : drawsT a = drawsU a) (hdb : drawsT b = drawsU b) (hA : noRF a.er = true) (hB : noRF b.er = true) (hpan : ∀ a s, ¬ E.pan a s) {k : FuncId} {cap : List AV} {items : List (List AV)} (hit : Iter E k cap items)
    (hk : callable E.P k = true) (hps : (ps.toList.all fun p => decide (p < N)) = true) (hg : aeval E.G f g = .fn (.func k) [] cap) (hlen : ∀ x ∈ items, x.length = ps.size) (S : Nat → Store) (P : Nat → Prop) (hP : P 0) (hσ : S 0 = σ) (hS : ∀ j, (S j).next = σ.next) (hSb : StoreBel σ → ∀ j, j ≤ items.length → StoreBel (S j))
    (rnd : ∀ j args X Y, items[j]? = some args → P j → wpA E (σ.next + 1) N ow a (putP ps.toList args f) ((S j).alloc X) (asgE E (σ.next + 1) N ow lv b σ.next X Y (rndP Y (S (j + 1)) (P (j + 1)) Q f)))
    (fin : P items.length → ∀ Z, Q .normal f ((S items.length).alloc Z)) : rangeW E n N ow g ps lv a b f σ Q := by
  refine AW.bel fun hσb => AW.rangeFunc hpan hg hk fun bk L h1 h2 h3 h4 hf => ?_
  obtain ⟨X, hX⟩ : ∃ X, X = lpAt bk L ((List.range N).map f) .ready none := ⟨_, rfl⟩
  obtain ⟨Y, hY⟩ : ∃ Y, Y = lpAt bk L ((List.range N).map f) .busy none := ⟨_, rfl⟩
  rw [← hX]
  refine (hit bk (σ.alloc X) (fun (j : Nat) (s : Store) => s = (S j).alloc X ∧ P j) (fun (s : Store) => ∃ (p : Code) (T : Store), T.next = σ.next ∧ s = T.alloc (lpAt bk L ((List.range N).map f) .done (some p)) ∧ jumpQ Q f (T.alloc (lpAt bk L ((List.range N).map f) .exhausted (some p))) (some p)) ?_ ?_ ⟨by rw [hσ], hP⟩ ?_).mono ?_
  · rintro j s ⟨rfl, _⟩; simp [hS]
  · rintro s ⟨p, T, hT, rfl, _⟩; simp [hT]
  · rintro j args s hj ⟨rfl, hPj⟩
    have hjl := (List.getElem?_eq_some_iff.1 hj).1
    obtain ⟨L2, hL2⟩ : ∃ L2 : Loop, L2 = { L with state := .ready, pending := none } := ⟨_, rfl⟩
    have hget : ((S j).alloc X).get σ.next = some (.lp bk L2 ((List.range N).map f)) := by rw [hX, hL2]; simp [hS, lpAt]
    have hlp : ∀ st p, lpAt bk L2 ((List.range N).map f) st p = lpAt bk L ((List.range N).map f) st p := fun st p => by rw [hL2]; rfl
    have h1 : L2.params = ps := by rw [hL2]; exact h1
    have h2 : L2.assign = a.er := by rw [hL2]; exact h2
    have h3 : L2.body = b.er := by rw [hL2]; exact h3
    have h4 : L2.tmps.size = N := by rw [hL2]; exact h4
    refine (AYield.of (K := fun r s' => (r = .c (.bool true) ∧ Below ((S (j + 1)).alloc X) s' ∧ P (j + 1)) ∨ (r = .c (.bool false) ∧ ∃ (p : Code) (T : Store), T.next = σ.next ∧ StoreBel T ∧ Below (T.alloc (lpAt bk L ((List.range N).map f) .done (some p))) s' ∧ jumpQ Q f (T.alloc (lpAt bk L ((List.range N).map f) .exhausted (some p))) (some p)))
      hpan hget ?_ ?_ ?_ ?_ ?_).fin ?_
    · intro p hp
      simp only [h1, h4] at hp ⊢
      exact of_decide_eq_true (List.all_eq_true.1 hps p hp)
    · simp only [h1]; exact hlen args (List.mem_of_getElem? hj)
    · simp only [h2]; exact hA
    · simp only [h3]; exact hB
    · simp only [h1, h2, h3, h4, hf, alloc_next, hS]
      refine AW.mono (wpA_ok hm _ _ _ _ hda (rnd j args X Y hj hPj)) ?_
      intro e f1 σ1 h
      cases e <;> first | exact h.elim | skip
      obtain ⟨g1, g2⟩ := h
      refine ⟨rfl, none, by rw [g1, hX, hlp], ?_⟩
      rw [hlp, ← hY]
      refine AW.keepT lv (AW.mono (wpA_ok hm _ _ _ _ hdb g2) ?_)
      intro e f2 s h
      have hout : ∀ (x : AExit) (c : Code), outE Y (S (j + 1)).next Q f x s → (∀ T, Q x f T → jumpQ Q f T (some c)) →
          (∃ p, s.get σ.next = some (lpAt bk L2 ((List.range N).map f) .busy p)) ∧ ∃ (p : Code) (T : Store), T.next = σ.next ∧ StoreBel T ∧ Below (T.alloc (lpAt bk L ((List.range N).map f) .done (some p))) (s.set σ.next (lpAt bk L2 ((List.range N).map f) .done (some c))) ∧ jumpQ Q f (T.alloc (lpAt bk L ((List.range N).map f) .exhausted (some p))) (some p) := by
        rintro x c ⟨T, t1, t2, t3, t4⟩ hj
        have t1 : T.next = σ.next := by rw [t1, hS]
        exact ⟨⟨none, by rw [hlp, ← hY]; exact (below_swap (X := lpAt bk L ((List.range N).map f) .done (some c)) t1 t3).1⟩, c, T, t1, t2, by rw [hlp]; exact (below_swap t1 t3).2, hj _ (t4 _)⟩
      cases e with
      | normal =>
        have hs := below_swap (X := X) (hS (j + 1)) h.1
        exact ⟨⟨none, by rw [hlp, ← hY]; exact hs.1⟩, .inl ⟨rfl, by rw [hlp, ← hX]; exact hs.2, h.2⟩⟩
      | ret => exact ⟨(hout .ret .ret h fun _ h => h).1, .inr ⟨rfl, (hout .ret .ret h fun _ h => h).2⟩⟩
      | exit id => exact ⟨(hout (.exit id) (.exit id) h fun _ h => h).1, .inr ⟨rfl, (hout (.exit id) (.exit id) h fun _ h => h).2⟩⟩
      | goto l => exact h.elim
    · intro hb r s' hq
      have hxb : ObjBel (σ.next + 1) X := by
        have := (hb σ.next X (by simp [hS])).2
        simpa [hS] using this
      rcases hq with ⟨rfl, hbl, hp1⟩ | ⟨rfl, p, T, t1, t2, t3, t4⟩
      · exact ⟨_, _, hbl.forget (by simp [hS]) (storeBel_alloc (hSb hσb (j + 1) hjl) (by rw [hS]; exact hxb)), .refl _, .inr (.c _), .inl ⟨rfl, rfl, hp1⟩⟩
      · exact ⟨_, _, t3.forget (by simp [hS, t1]) (storeBel_alloc t2 (by rw [t1]; rw [hX] at hxb; exact hxb)), .refl _, .inr (.c _), .inr ⟨rfl, p, T, t1, rfl, t4⟩⟩
  · rintro _ s (⟨rfl, hPn⟩ | ⟨p, T, hT, rfl, hj⟩)
    · refine ⟨.ready, none, by simp, by rw [hX]; simp [hS], ?_⟩
      rw [alloc_put _ _ _ _ (hS _)]
      exact fin hPn _
    · refine ⟨.done, some p, by simp, by simp [hT], ?_⟩
      rw [alloc_put _ _ _ _ hT]
      exact hj
theorem rangeW.adoptLg {p : Nat} {T : TypeId} {k : Nat} {es es' : List AV} (T' : TypeId) (hp : σ.get p = some (.arr T k es)) (hl : es'.length = es.length) (hc : ∀ (k : Nat) (e e' : AV), es[k]? = some e → es'[k]? = some e' → e'.cells.length = e.cells.length)
    (hv : ∀ (k : Nat) (e e' : AV) (j : Nat) (x y : AV), es[k]? = some e → es'[k]? = some e' → e.cells[j]? = some x → e'.cells[j]? = some y → y = x ∨ (x = .nl ∧ y = .lg σ.next []))
    (h : rangeW E n N ow g ps lv a b f ((σ.alloc (.log T' 0)).set p (.arr T k es')) Q) : rangeW E n N ow g ps lv a b f σ Q := AW.adoptLg T' hp hl hc hv h
/-- A nil slice in an object of one cell. -/
theorem rangeW.adopt0 {p : Nat} {T : TypeId} {k : Nat} (T' : TypeId) (hp : σ.get p = some (.arr T k [.nl]))
    (h : rangeW E n N ow g ps lv a b f ((σ.alloc (.log T' 0)).set p (.arr T k [.lg σ.next []])) Q) : rangeW E n N ow g ps lv a b f σ Q := by
  refine rangeW.adoptLg (es' := [.lg σ.next []]) T' hp rfl ?_ ?_ h
  · intro k e e' q1 q2
    match k, q1, q2 with
    | 0, q1, q2 => cases q1; cases q2; rfl
  · intro k e e' j x y q1 q2 q3 q4
    match k, q1, q2 with
    | 0, q1, q2 =>
      cases q1; cases q2
      match j, q3, q4 with
      | 0, q3, q4 => cases q3; cases q4; exact .inr ⟨rfl, rfl⟩
/-- The same at an object of one element with cells. -/
theorem rangeW.adopt1 {p : Nat} {T : TypeId} {k : Nat} {cs cs' : List AV} (T' : TypeId) (hp : σ.get p = some (.arr T k [.agg cs])) (hv : cellsAs σ.next cs cs')
    (h : rangeW E n N ow g ps lv a b f ((σ.alloc (.log T' 0)).set p (.arr T k [.agg cs'])) Q) : rangeW E n N ow g ps lv a b f σ Q := by
  obtain ⟨h1, h2⟩ := cellsAs_get hv
  refine rangeW.adoptLg (es' := [.agg cs']) T' hp rfl (one_hc h1.symm) ?_ h
  intro k e e' j x y q1 q2 q3 q4
  match k, q1, q2 with
  | 0, q1, q2 => cases q1; cases q2; exact h2 j x y q3 q4
end
section
variable {E : Env} {n N : Nat} {ow lv : List Nat} {c : ACode} {f : Nat → AV} {σ : Store} {Q : Kn}
/-- Like loop_e, the round as a walk of its code. -/
theorem loop_a {ι : Type} (x0 : ι) (ov : ι → List (Nat × AV)) (S : ι → Store) (P : ι → Prop) (μ : ι → Nat)
    (hP : P x0) (hS : ∀ x, P x → n ≤ (S x).next ∧ StoreBel (S x) ∧ BelL (S x).next (hdL lv (ov x) f)) (hσ : Below (S x0) σ) (hf : KnowsL N f (hdL lv (ov x0) f))
    (round : ∀ x, P x → AW E n N c.er (tf (tL (hdL lv (ov x) f))) (S x) (roundE N (fun y => hdL lv (ov y) f) S (fun y => P y ∧ μ y < μ x) Q)) : loopW E n N ow lv c f σ Q := by
  have kw : ∀ x f' σ', P x → Below (S x) σ' → KnowsL N f' (hdL lv (ov x) f) → KnowsW n N f' σ' (hdL lv (ov x) f) (S x) := fun x f' σ' hx h1 h2 => by
    obtain ⟨a1, a2, a3⟩ := hS x hx
    refine ⟨h1.forget a1 a2, fun p hp => ⟨(h2.knows p hp).1, (h2.knows p hp).2 ▸ sr_kz _ _ _, .inr (a3.mem p hp)⟩⟩
  refine AW.loopW (fun x => hdL lv (ov x) f) S P μ x0 hP (kw x0 f σ hP hσ hf) fun x hx => ?_
  rw [fr_tL]
  refine AW.mono (round x hx) ?_
  intro e f' σ' h
  cases e <;> first | exact h | skip
  obtain ⟨y, ⟨h1, h2⟩, h3, h4⟩ := h
  exact ⟨y, h1, kw _ f' σ' h1 h3 h4, h2⟩
end
@[simp ↓] theorem AThen_normal (next : (Nat → AV) → Store → Prop) (Q : Kn) (f : Nat → AV) (σ : Store) : AThen next Q .normal f σ = next f σ := (rfl)
@[simp ↓] theorem AThen_ret (next : (Nat → AV) → Store → Prop) (Q : Kn) (f : Nat → AV) (σ : Store) : AThen next Q .ret f σ = Q .ret f σ := (rfl)
@[simp ↓] theorem AThen_exit (next : (Nat → AV) → Store → Prop) (Q : Kn) (i : Nat) (f : Nat → AV) (σ : Store) : AThen next Q (.exit i) f σ = Q (.exit i) f σ := (rfl)
end Go.AW
