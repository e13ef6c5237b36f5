/- More operations: conversions, cuts, make, literals, lengths. No condition. -/
import Derived.Test.YtkbklfodaemkoaaDoorAw6b
import Derived.Lib.ConvBytes
import Derived.Laws.BytesString
import Derived.Laws.MakeOwn
import Derived.Laws.IdiomStrings
set_option linter.unusedVariables false
set_option linter.unusedSimpArgs false
set_option linter.unnecessarySimpa false
namespace Go.AW
open Go

/-! ### A new row, either of the store or written no more -/
/-- The cells of a new row stand for these elements. -/
def RowRel (Γ : Ctx) (w : World) (sz : Nat) (es : List AV) (xs : Array Value) : Prop :=
  (∀ e ∈ es, e.cells.length = sz) ∧ ∀ (k : Nat) (e : AV) (j : Nat) (x : AV), es[k]? = some e → e.cells[j]? = some x → ∃ u, xs[k * sz + j]? = some u ∧ u.oneCell' = true ∧ VR Γ w x u

theorem new_sealed {E : Env} {Γ : Ctx} {σ : Store} {w w' : World} {K : AV → Store → Prop} {e : TypeId} {es : List AV} {xs : Array Value} {fr : Nat × Nat} {cap : Nat} (hr : R E Γ σ w)
    (hrow : RowRel Γ w (tsz E.P e) es xs) (hcap : es.length ≤ cap) (hg : w.grownBy w' none) (hnew : w'.heap[w.heap.size]? = some (.cells xs e fr)) (h : K (.ps es) σ) :
    Res E Γ w K (.slice (some ⟨w.heap.size, 0, none⟩) es.length cap) w' := by
  obtain ⟨hx, hR⟩ := hr.same_ctx hg
  refine ⟨Γ, .ps es, σ, hx, hR, ?_, h⟩
  obtain ⟨h1, h2⟩ := hrow
  have key : ∀ (k : Nat) (y : AV) (j : Nat) (x : AV), es[k]? = some y → y.cells[j]? = some x → xs[k * y.cells.length + j]? = some (xs.getD (k * y.cells.length + j) Go.undef) ∧ (xs.getD (k * y.cells.length + j) Go.undef).oneCell' = true ∧ VR Γ w' x (xs.getD (k * y.cells.length + j) Go.undef) := by
    intro k y j x hk hj
    obtain ⟨u, u1, u2, u3⟩ := h2 k y j x hk hj
    rw [← h1 y (List.mem_of_getElem? hk)] at u1
    have : xs.getD (k * y.cells.length + j) Go.undef = u := by
      have hlt := (Array.getElem?_eq_some_iff.1 u1).1
      rw [Array.getD_eq_getD_getElem?, u1]; rfl
    rw [this]
    exact ⟨u1, u2, u3.ext hx⟩
  refine .ps es _ cap w.heap.size 0 (fun k j => xs.getD (k * (es.getD k .junk).cells.length + j) Go.undef) hcap (fun _ => ⟨rfl, (Array.getElem?_eq_some_iff.1 hnew).1⟩) ?_ ?_ ?_
  · intro k y j x hk hj
    have hgd : es.getD k .junk = y := by simp [List.getD, hk]
    obtain ⟨a1, a2, a3⟩ := key k y j x hk hj
    rw [hgd]
    refine ⟨?_, Ctx.fixd_of fun ho => absurd (hr.blk_lt ho) (Nat.lt_irrefl _)⟩
    simp only [World.cell?, hnew, Nat.zero_add]
    simpa using a1
  · intro k y j x hk hj
    have hgd : es.getD k .junk = y := by simp [List.getD, hk]
    rw [hgd]; exact (key k y j x hk hj).2.1
  · intro k y j x hk hj
    have hgd : es.getD k .junk = y := by simp [List.getD, hk]
    rw [hgd]; exact (key k y j x hk hj).2.2

theorem new_owned {E : Env} {Γ : Ctx} {σ : Store} {w w' : World} {K : AV → Store → Prop} {e : TypeId} {es : List AV} {xs : Array Value} {fr : Nat × Nat} {cap : Nat} (hr : R E Γ σ w)
    (hrow : RowRel Γ w (tsz E.P e) es xs) (hcap : es.length ≤ cap) (hm : cap ≤ maxLen) (hxs : xs.size = cap * tsz E.P e) (hfr : fr.1 = fr.2 ∨ xs.size ≤ fr.1 ∧ tsz E.P e = 1) (hg : w.grownBy w' none) (hnew : w'.heap[w.heap.size]? = some (.cells xs e fr))
    (h : K (.rs σ.next 0 0 es.length) (σ.alloc (.arr e 0 es))) :
    Res E Γ w K (.slice (some ⟨w.heap.size, 0, none⟩) es.length cap) w' := by
  obtain ⟨h1, h2⟩ := hrow
  have key : ∀ (hx : ExtN Γ.next Γ w (Γ.alloc ⟨some w.heap.size, tsz E.P e, cap, 0, none⟩) w'), ObjRel E.P (Γ.alloc ⟨some w.heap.size, tsz E.P e, cap, 0, none⟩) w' (.arr e 0 es) ⟨some w.heap.size, tsz E.P e, cap, 0, none⟩ := by
    intro hx
    refine ⟨rfl, rfl, h1, hcap, hm, xs, fr, hnew, hfr, hxs, fun k y j x hk hj => ?_⟩
    obtain ⟨u, u1, u2, u3⟩ := h2 k y j x hk hj
    exact ⟨u, u1, u2, u3.ext hx⟩
  obtain ⟨hx', hR⟩ := hr.new hg (.inr ⟨_, rfl, Nat.le_refl _⟩) rfl key
  refine ⟨_, _, _, hx', hR, ?_, h⟩
  refine .rs σ.next 0 0 es.length _ cap (by simp [Ctx.alloc, hr.next]) hcap ?_
  intro l hl
  simp [Ctx.alloc, hr.next] at hl
  subst hl
  exact ⟨Nat.le_refl _, fun _ => ⟨by simp, .inr (by simp), fun _ => rfl⟩⟩

/-! ### Conversions -/
def AV.byte : AV → UInt8
  | .c (.int .u8 n) => UInt8.ofNat n.toNat
  | _ => 0
def AV.isByte : AV → Bool
  | .c (.int .u8 _) => true
  | _ => false
@[simp] theorem byte_byteV (b : UInt8) : (byteV b).byte = b := by simp [byteV, AV.byte]
@[simp] theorem isByte_byteV (b : UInt8) : (byteV b).isByte = true := rfl
@[simp] theorem map_byte_byteV (l : List UInt8) : (l.map byteV).map AV.byte = l := by
  rw [List.map_map]; simp [Function.comp_def]

theorem isByte_ex {y : AV} (h : y.isByte = true) : ∃ n, y = .c (.int .u8 n) := by
  unfold AV.isByte at h
  split at h
  · exact ⟨_, rfl⟩
  · cases h

def aConv (E : Env) (own : Nat) (s d : TypeId) (x : AV) (σ : Store) (K : AV → Store → Prop) : Prop :=
  tk E.P s ≠ .other ∧ match tk E.P d with
    | .int k => (match x with
      | .c (.int _ n) => K (.c (.int k (k.wrap n))) σ
      | _ => False)
    | .str => (match x with
      | .c (.string t) => K x σ
      | .c (.int _ n) => K (.c (.string (Utf8.encode n))) σ
      | _ => (match tk E.P s with
        | .slc e => tk E.P e = .int .u8 ∧ (match aElems σ x with
          | some es => (∀ a ∈ es, a.isByte = true) ∧ K (.c (.string ⟨(es.map AV.byte).toArray⟩)) σ
          | none => False)
        | _ => False))
    | .slc e => (match x with
      | .c (.string t) => tk E.P e = .int .u8 ∧ tsz E.P e = 1 ∧ t.size ≤ 140737488355328 ∧ (if own = 1 then K (.rs σ.next 0 0 t.size) (σ.alloc (.arr e 0 (t.data.toList.map byteV))) else if own = 2 then K (.lg σ.next (t.data.toList.map byteV)) (σ.alloc (.log e t.size)) else K (.ps (t.data.toList.map byteV)) σ)
      | .fs l => s = d ∧ tk E.P e = .int .u8 ∧ K (.ps (l.map byteV)) σ
      | _ => False)
    | _ => False

theorem under_of_tk {P : Program} {t : TypeId} (h : tk P t ≠ .other) : ∃ d, P.underlying t = some d := by
  unfold tk at h
  cases hu : P.underlying t with
  | none => simp [hu] at h
  | some d => exact ⟨d, rfl⟩

theorem rowRel_bytes (Γ : Ctx) (w w0 : World) (e : TypeId) (t : ByteArray) : RowRel Γ w 1 (t.data.toList.map byteV) (Lib.bytesCells w0 e t) := by
  refine ⟨fun y hy => ?_, ?_⟩
  · obtain ⟨b, _, rfl⟩ := List.mem_map.1 hy; rfl
  · intro k y j x hk hj
    rw [List.getElem?_map, Option.map_eq_some_iff] at hk
    obtain ⟨b, hb, rfl⟩ := hk
    cases j with
    | succ j => simp [byteV, AV.cells] at hj
    | zero =>
      simp [byteV, AV.cells] at hj
      subst hj
      have hlt := (List.getElem?_eq_some_iff.1 hb).1
      refine ⟨.int .u8 b.toNat, ?_, rfl, .c _ rfl⟩
      have hlt' : k < t.data.size := by simpa using hlt
      have hb' : t.data[k] = b := by
        have := (List.getElem?_eq_some_iff.1 hb).2
        simpa using this
      have hlt2 : k < t.size := hlt'
      have hb2 : t.data[k]? = some b := by simpa using hb
      simp [Lib.bytesCells, Array.getElem?_append, hlt2, hb2, hb']

/-- A step after which the blocks of the store are as they were. -/
theorem R.keep {E : Env} {Γ : Ctx} {σ : Store} {w w' : World} (h : R E Γ σ w) (hx : ExtN Γ.next Γ w Γ w') (ho : ∀ b, Γ.owns b → w'.heap[b]? = w.heap[b]?) : R E Γ σ w' := by
  refine ⟨h.next, h.dom, h.bnd, h.inj, ?_, fun g cs hg => (h.glob g cs hg).ext hx, h.gbel, Nat.le_trans h.base hx.size, h.lims⟩
  intro j oj lj hoj hlj
  have hr := h.objs j oj lj hoj hlj
  have hsame : ∀ b, lj.blk = some b → w'.heap[b]? = w.heap[b]? := fun b hb => ho b ⟨j, lj, hlj, hb⟩
  cases oj with
  | arr T g es =>
    simp only [ObjRel] at hr ⊢
    obtain ⟨h1, h2, h3, h4, h5, h6⟩ := hr
    refine ⟨h1, h2, h3, h4, h5, ?_⟩
    cases hb : lj.blk with
    | none => simp only [hb] at h6 ⊢; exact h6
    | some b =>
      simp only [hb] at h6 ⊢
      obtain ⟨xs, fr, q1, q2, q3, q4⟩ := h6
      refine ⟨xs, fr, (hsame b hb).trans q1, q2, q3, fun k e j x hk hj => ?_⟩
      obtain ⟨u, u1, u2, u3⟩ := q4 k e j x hk hj
      exact ⟨u, u1, u2, u3.ext hx⟩
  | map ents born clock =>
    obtain ⟨h0, b, es, q1, q2, q3, q4, q5⟩ := hr
    exact ⟨h0, b, es, q1, (hsame b q1).trans q2, q3, fun k e en hk hen => ⟨(q4 k e en hk hen).1, (q4 k e en hk hen).2.ext hx⟩, q5⟩
  | lp b L =>
    obtain ⟨h0, q1, q2⟩ := hr
    exact ⟨h0, q1, (hsame b q1).trans q2⟩
  | it o =>
    obtain ⟨h0, b, q1, q2, q3⟩ := hr
    exact ⟨h0, b, q1, (hsame b q1).trans q2, q3⟩
  | mi m since seen last =>
    obtain ⟨h0, b, bm, q1, q2, q3⟩ := hr
    exact ⟨h0, b, bm, q1, (hsame b q1).trans q2, q3.ext hx⟩
  | log T m =>
    simp only [ObjRel] at hr ⊢
    obtain ⟨h1, h2, h3, h4, h5⟩ := hr
    refine ⟨h1, h2, h3, h4, ?_⟩
    cases hb : lj.blk with
    | none => simp only [hb] at h5 ⊢; exact h5
    | some b =>
      simp only [hb] at h5 ⊢
      obtain ⟨xs, fr, q1, q2⟩ := h5
      exact ⟨xs, fr, (hsame b hb).trans q1, q2⟩

/-- The conversion of a literal's bytes to their own type: the mark behind the row. -/
theorem fs_conv {E : Env} {Γ : Ctx} {σ : Store} {w : World} {t e : TypeId} {l : List UInt8} {xv : Value} {K : AV → Store → Prop} (hr : R E Γ σ w) (hx : VR Γ w (.fs l) xv)
    (ht : E.P.underlying t = some (.slice e)) (he : E.P.underlying e = some (.int .u8)) (h : K (.ps (l.map byteV)) σ) : Up E Γ w K ((do pure (.value (← convert t t xv)) : Sem Next).run E.P w) := by
  cases hx with
  | fs l b cap hb hc hh =>
    obtain ⟨xs, ty, fr, h1, h2⟩ := hh
    have hsh : w.shape? b = some (ty, xs.size) := by unfold World.shape?; rw [h1]
    have hrun : (convert t t (.slice (some ⟨b, 0, none⟩) l.length cap)).run E.P w = .ok (.slice (some ⟨b, 0, none⟩) l.length cap) (w.freeze ⟨b, xs.size, none⟩ 1) := by
      simp [convert, run_underlying ht, run_underlying he, markStringish, hsh]
    have hheap : ∀ k, (w.freeze ⟨b, xs.size, none⟩ 1).heap[k]? = if k = b then some (.cells xs ty (if fr.1 == fr.2 then (xs.size, xs.size + 1) else (min fr.1 xs.size, max fr.2 (xs.size + 1)))) else w.heap[k]? := by
      intro k
      unfold World.freeze
      rw [if_neg (by decide)]
      simp only [Array.getElem?_modify]
      split
      · rename_i e; subst e; rw [h1]; simp
      · rename_i e; rw [if_neg (fun e' => e e'.symm)]
    have hsz : (w.freeze ⟨b, xs.size, none⟩ 1).heap.size = w.heap.size := by
      unfold World.freeze
      rw [if_neg (by decide)]
      simp
    have hx : ExtN Γ.next Γ w Γ (w.freeze ⟨b, xs.size, none⟩ 1) := by
      refine ⟨by unfold World.freeze; rw [if_neg (by decide)], by unfold World.freeze; rw [if_neg (by decide)], by unfold World.freeze; rw [if_neg (by decide)], Nat.le_of_eq hsz.symm, fun k hk ho => ⟨?_, ho⟩, fun k m hk hf => ⟨fun v hv => ?_, hf⟩,
        fun i l' _ hi => ⟨l', hi, Nat.le_refl _, fun _ => rfl⟩, Nat.le_refl _, Nat.le_refl _, rfl⟩
      · rw [hheap k]
        split
        · rename_i e; subst e; exact .inr ⟨hb.2.2, xs, ty, fr, _, h1, rfl⟩
        · exact .inl rfl
      · have hh := hheap k
        by_cases e0 : k = b
        · subst e0
          rw [if_pos rfl] at hh
          simp only [World.cell?, h1] at hv
          simp only [World.cell?, hh]
          exact hv
        · rw [if_neg e0] at hh
          simp only [World.cell?] at hv
          simp only [World.cell?, hh]
          exact hv
    have hR := hr.keep hx fun k hk => by
      have hne : k ≠ b := by intro e0; subst e0; exact hb.1 hk
      rw [hheap k, if_neg hne]
    refine Up.value hrun ⟨Γ, _, σ, hx, hR, ?_, h⟩
    have hl : (l.map byteV).length = l.length := by simp
    rw [← hl]
    refine .ps (l.map byteV) _ cap b 0 (fun k j => .int .u8 (l.getD k 0).toNat) (by simpa using hc) (fun _ => ⟨rfl, by rw [hsz]; exact hb.2.1⟩) ?_ (fun _ _ _ _ _ _ => rfl) ?_
    all_goals
      intro k y j x hk hj
      rw [List.getElem?_map, Option.map_eq_some_iff] at hk
      obtain ⟨u, hu, rfl⟩ := hk
      cases j with
      | succ j => simp [byteV, AV.cells] at hj
      | zero =>
        have hgd : l.getD k 0 = u := by simp [List.getD, hu]
        simp [byteV, AV.cells] at hj
        subst hj
        first
        | (rw [hgd]; exact .c _ rfl)
        | (have := hheap b
           rw [if_pos rfl] at this
           have e1 : 0 + k * (byteV u).cells.length + 0 = k := by simp [byteV, AV.cells]
           have e2 : (w.freeze ⟨b, xs.size, none⟩ 1).cell? ⟨b, k, none⟩ = xs[k]? := by unfold World.cell?; rw [this]; rfl
           exact ⟨by rw [e1, e2, h2 k u hu, hgd], Ctx.fixd_of hb.1⟩)

theorem aConv_ok {E : Env} {Γ : Ctx} {σ : Store} {w : World} {own : Nat} {s d : TypeId} {x : AV} {xv : Value} {K : AV → Store → Prop} (hr : R E Γ σ w) (hx : VR Γ w x xv) (h : aConv E own s d x σ K) :
    Up E Γ w K ((do pure (.value (← convert s d xv)) : Sem Next).run E.P w) := by
  obtain ⟨hs, h⟩ := h
  obtain ⟨ds, hds⟩ := under_of_tk hs
  split at h
  · rename_i k hd
    have hd' := tk_int hd
    split at h
    · cases hx
      refine Up.value (w' := w) ?_ (Res.same hr (.c _ rfl) h)
      simp [convert, run_underlying hds, run_underlying hd', Conv.intToInt]
    · exact h.elim
  · rename_i hd
    have hd' := tk_str hd
    split at h
    · rename_i t
      have hx0 := hx
      cases hx
      refine Up.value (w' := w) ?_ (Res.same hr hx0 h)
      simp [convert, run_underlying hds, run_underlying hd']
    · rename_i kk n
      cases hx
      refine Up.value (v := .string (Utf8.encode n)) (w' := w) ?_ (Res.same hr (.c _ rfl) h)
      simp [convert, run_underlying hds, run_underlying hd', Conv.intToString]
    · rename_i hnot hnot'
      split at h
      · rename_i e hse
        have hse' := tk_slc hse
        obtain ⟨he, h⟩ := h
        have he' := tk_int he
        split at h
        · rename_i es hel
          obtain ⟨hby, h⟩ := h
          have hs1 : ∀ y ∈ es, y.cells.length = 1 := by
            intro y hy
            have := hby y hy
            cases y <;> simp_all [AV.isByte, AV.cells]
          obtain ⟨us, hus, hrun⟩ := run_firstCells hr hx hel hs1
          have hcv : ∃ a cap, xv = .slice a es.length cap := by
            unfold aElems at hel
            split at hel
            · cases hel; cases hx; exact ⟨_, _, rfl⟩
            · cases hel; cases hx; exact ⟨_, _, rfl⟩
            · exact (hnot _ rfl).elim
            · split at hel
              · split at hel
                · rename_i hc; cases hel; cases hx; rename_i es0 off0 len0 _ _ a0 cap0 _ _ _; exact ⟨a0, cap0, by simp; omega⟩
                · cases hel
              · cases hel
            · cases hel
          obtain ⟨a, cap, rfl⟩ := hcv
          have hflat : flat es = es := by
            unfold flat
            clear hrun hus hel h hx
            induction es with
            | nil => rfl
            | cons y ys ih =>
              rw [List.flatMap_cons, ih (fun z hz => hby z (by simp [hz])) (fun z hz => hs1 z (by simp [hz]))]
              have := hby y (by simp)
              cases y <;> simp_all [AV.isByte, AV.cells]
          rw [hflat] at hus
          have hns : us = (us.map fun u => match u with | .int _ n => n | _ => 0).map (Value.int .u8) := by
            refine List.ext_getElem? fun j => ?_
            rw [List.map_map, List.getElem?_map]
            cases hu : us[j]? with
            | none => rfl
            | some u =>
              have hlt := (List.getElem?_eq_some_iff.1 hu).1
              rw [hus.1] at hlt
              have hy := List.getElem?_eq_getElem hlt
              have hv := hus.2.2 j _ u hy hu
              have hb := hby _ (List.mem_of_getElem? hy)
              generalize es[j] = y at hv hb
              obtain ⟨n, rfl⟩ := isByte_ex hb
              cases hv
              rfl
          have hbs : es.map AV.byte = (us.map fun u => match u with | .int _ n => n | _ => 0).map fun n => UInt8.ofNat n.toNat := by
            refine List.ext_getElem? fun j => ?_
            rw [List.map_map, List.getElem?_map, List.getElem?_map]
            cases hy : es[j]? with
            | none =>
              have : us[j]? = none := by rw [List.getElem?_eq_none_iff] at hy ⊢; rw [hus.1]; exact hy
              rw [this]; rfl
            | some y =>
              have hlt := (List.getElem?_eq_some_iff.1 hy).1
              rw [← hus.1] at hlt
              have hu := List.getElem?_eq_getElem hlt
              have hv := hus.2.2 j _ _ hy hu
              have hb := hby _ (List.mem_of_getElem? hy)
              rw [hu]
              generalize us[j] = u at hv
              obtain ⟨n, rfl⟩ := isByte_ex hb
              cases hv
              rfl
          refine Up.value (v := .string ⟨(es.map AV.byte).toArray⟩) (w' := w) ?_ (Res.same hr (.c _ rfl) h)
          rw [run_convert_bytes_string w s d e a es.length cap hse' he' hd']
          cases a with
          | none =>
            have h0 := hrun w rfl
            simp [Builtin.firstCells] at h0
            have : us = [] := by
              cases us with
              | nil => rfl
              | cons _ _ => simp at h0
            have hes : es = [] := List.eq_nil_of_length_eq_zero (by rw [← hus.1, this]; rfl)
            subst hes
            simp [Conv.bytesToString]; rfl
          | some ad =>
            have h0 := hrun w rfl
            simp only [Builtin.firstCells, Nat.mul_one] at h0
            rw [hns] at h0
            rw [run_bytesToString w ad es.length cap _ h0]
            congr 2
            rw [hbs]
            generalize (us.map fun u => match u with | .int _ n => n | _ => 0) = ns
            have : ∀ (ns : List Int) (r : ByteArray), ns.foldl (fun r n => r.push (UInt8.ofNat n.toNat)) r = ⟨r.data ++ (ns.map fun n => UInt8.ofNat n.toNat).toArray⟩ := by
              intro ns
              induction ns with
              | nil => intro r; simp
              | cons n ns ih => intro r; simp only [List.foldl_cons, ih, List.map_cons]; simp [ByteArray.push]
            rw [this]
            simp
        · exact h.elim
      · exact h.elim
  · rename_i e hd
    have hd' := tk_slc hd
    split at h
    · rename_i t
      cases hx
      obtain ⟨he, hsz, hsize, h⟩ := h
      have he' := tk_int he
      have hrun := Lib.run_convert_string_bytes w s d e t hds hd' he'
      have hg : w.grownBy (Lib.bytesWorld w e t) none := ⟨rfl, rfl, rfl, by rw [Lib.bytesWorld_size]; omega, fun k hk _ => Lib.bytesWorld_at_old w e t k hk⟩
      have hlen : (t.data.toList.map byteV).length = t.size := by simp
      have hcap := grownCap_ge w t.size 0 e
      refine Up.value hrun ?_
      split at h
      · have hm := grownCap_le_maxLen w t.size 0 e (by simp only [maxLen]; omega)
        have := new_owned (e := e) (es := t.data.toList.map byteV) (cap := grownCap w t.size 0 e) (K := K) hr (by rw [hsz]; exact rowRel_bytes Γ w w e t) (by rw [hlen]; exact hcap) hm
          (by rw [hsz]; simp only [Lib.bytesCells, Array.size_append, Array.size_map, Array.size_replicate, Nat.mul_one]; have : t.data.size = t.size := rfl; omega) (.inr ⟨Nat.le_refl _, hsz⟩) hg (Lib.bytesWorld_at_new w e t) (by rw [hlen]; exact h)
        rwa [hlen] at this
      · split at h
        · have hm := grownCap_le_maxLen w t.size 0 e (by simp only [maxLen]; omega)
          have hrow := rowRel_bytes Γ w w e t
          have := new_log (e := e) (es := t.data.toList.map byteV) (c := grownCap w t.size 0 e) (K := K) hr hg (Lib.bytesWorld_at_new w e t) (.inr ⟨Nat.le_refl _, hsz⟩) (by rw [hsz]; exact hrow.1) (by rw [hsz]; exact hrow.2)
            (by rw [hsz]; simp only [Lib.bytesCells, Array.size_append, Array.size_map, Array.size_replicate, Nat.mul_one]; have : t.data.size = t.size := rfl; omega) (by rw [hlen]; exact hcap) hm (by rw [hlen]; exact h)
          rwa [hlen] at this
        · have := new_sealed (e := e) (es := t.data.toList.map byteV) (cap := grownCap w t.size 0 e) (K := K) hr (by rw [hsz]; exact rowRel_bytes Γ w w e t) (by rw [hlen]; exact hcap) hg (Lib.bytesWorld_at_new w e t) h
          rwa [hlen] at this
    · obtain ⟨rfl, he, h⟩ := h
      exact fs_conv hr hx hd' (tk_int he) h
    · exact h.elim
  · exact h.elim
end Go.AW
