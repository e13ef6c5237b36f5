/- Structs and slices that are built, appended to, cut, measured and converted. No condition. -/
import Derived.Test.YtkbklfodaemkoaaDoorAw5
set_option linter.unusedVariables false
set_option linter.unusedSimpArgs false
set_option linter.unnecessarySimpa false
namespace Go.AW
open Go

/-! ### Building -/
def aFill (place : Nat → Option (Nat × Nat)) (cells : List AV) : List (Nat × AV) → Option (List AV)
  | [] => some cells
  | (i, v) :: rest => (place i).bind fun p => if v.ok = true ∧ v.cells.length = p.2 ∧ p.1 + p.2 ≤ cells.length then aFill place (cells.take p.1 ++ v.cells ++ cells.drop (p.1 + p.2)) rest else none

theorem foldl_set (vs : List Value) (off : Nat) : ∀ (k : Nat) (cells : Array Value), off + k + vs.length ≤ cells.size →
    ((vs.zipIdx k).foldl (fun cs (p : Value × Nat) => cs.setIfInBounds (off + p.2) p.1) cells) = (cells.toList.take (off + k) ++ vs ++ cells.toList.drop (off + k + vs.length)).toArray := by
  induction vs with
  | nil => intro k cells h; simp
  | cons v vs ih =>
    intro k cells h
    simp only [List.zipIdx_cons, List.foldl_cons]
    rw [ih (k + 1) _ (by simp at h ⊢; omega)]
    have e := list_seg_step cells.toList (off + k) v vs (by simp at h ⊢; omega)
    congr 1
    simpa [Array.toList_setIfInBounds, Nat.add_assoc] using e

/-- Parts and their abstract parts. -/
def PartsRel (Γ : Ctx) (w : World) : List (Nat × AV) → List (Nat × Value) → Prop
  | [], [] => True
  | (i, a) :: as, (j, v) :: vs => i = j ∧ VR Γ w a v ∧ PartsRel Γ w as vs
  | _, _ => False

/-- A list of cells and its values. -/
def CellsRel (Γ : Ctx) (w : World) (cs : List AV) (us : List Value) : Prop :=
  us.length = cs.length ∧ (∀ u ∈ us, u.oneCell' = true) ∧ ∀ (j : Nat) (x : AV) (u : Value), cs[j]? = some x → us[j]? = some u → VR Γ w x u

theorem CellsRel.append {Γ : Ctx} {w : World} {a b : List AV} {us vs : List Value} (h : CellsRel Γ w a us) (k : CellsRel Γ w b vs) : CellsRel Γ w (a ++ b) (us ++ vs) := by
  obtain ⟨h1, h2, h3⟩ := h
  obtain ⟨k1, k2, k3⟩ := k
  refine ⟨by simp [h1, k1], ?_, ?_⟩
  · intro u hu
    rcases List.mem_append.1 hu with hu | hu
    · exact h2 u hu
    · exact k2 u hu
  · intro j x u hx hu
    by_cases hj : j < a.length
    · rw [List.getElem?_append_left hj] at hx
      rw [List.getElem?_append_left (by omega)] at hu
      exact h3 j x u hx hu
    · rw [List.getElem?_append_right (by omega)] at hx
      rw [List.getElem?_append_right (by omega), h1] at hu
      exact k3 _ x u hx hu

theorem CellsRel.take {Γ : Ctx} {w : World} {a : List AV} {us : List Value} (h : CellsRel Γ w a us) (n : Nat) : CellsRel Γ w (a.take n) (us.take n) := by
  obtain ⟨h1, h2, h3⟩ := h
  refine ⟨by simp [h1], fun u hu => h2 u (List.mem_of_mem_take hu), fun j x u hx hu => ?_⟩
  rw [List.getElem?_take] at hx hu
  split at hx
  · rw [if_pos (by assumption)] at hu; exact h3 j x u hx hu
  · cases hx

theorem CellsRel.drop {Γ : Ctx} {w : World} {a : List AV} {us : List Value} (h : CellsRel Γ w a us) (n : Nat) : CellsRel Γ w (a.drop n) (us.drop n) := by
  obtain ⟨h1, h2, h3⟩ := h
  refine ⟨by simp [h1], fun u hu => h2 u (List.mem_of_mem_drop hu), fun j x u hx hu => ?_⟩
  rw [List.getElem?_drop] at hx hu
  exact h3 _ x u hx hu

theorem VR.cellsRel {Γ : Ctx} {w : World} {a : AV} {v : Value} (h : VR Γ w a v) (ha : a.ok = true) : CellsRel Γ w a.cells v.cells.toList := by
  obtain ⟨h1, h2, h3⟩ := h.cells ha
  exact ⟨by simp [h1], fun u hu => h2 u (by simpa using hu), fun j x u hx hu => h3 j x u hx (by simpa using hu)⟩

theorem CellsRel.agg {Γ : Ctx} {w : World} {cs : List AV} {us : List Value} (h : CellsRel Γ w cs us) : VR Γ w (.agg cs) (.agg us.toArray) := VR.agg_of h.1 h.2.1 h.2.2

theorem fill_ok {Γ : Ctx} {w : World} (place : Nat → Option (Nat × Nat)) : ∀ (parts : List (Nat × AV)) (vparts : List (Nat × Value)) (cs cs' : List AV) (us : Array Value), PartsRel Γ w parts vparts → CellsRel Γ w cs us.toList →
    aFill place cs parts = some cs' → ∃ us', Instr.fill place us vparts = some us' ∧ CellsRel Γ w cs' us'.toList
  | [], [], cs, cs', us, _, hc, h => by
    simp only [aFill, Option.some.injEq] at h; subst h
    exact ⟨us, rfl, hc⟩
  | (i, a) :: parts, (j, v) :: vparts, cs, cs', us, hp, hc, h => by
    obtain ⟨rfl, hv, hp⟩ := hp
    simp only [aFill] at h
    cases hpl : place i with
    | none => simp [hpl] at h
    | some p =>
      simp only [hpl, Option.bind_some] at h
      split at h
      · rename_i hcond
        obtain ⟨c1, c2, c3⟩ := hcond
        obtain ⟨d1, d2, d3⟩ := hv.cells c1
        have hus : us.size = cs.length := by have := hc.1; simpa using this
        have hvs : v.cells.size = p.2 := by rw [← d1, c2]
        have hfold : v.cells.zipIdx.foldl (fun cs (x : Value × Nat) => cs.setIfInBounds (p.1 + x.2) x.1) us = (us.toList.take p.1 ++ v.cells.toList ++ us.toList.drop (p.1 + p.2)).toArray := by
          have := foldl_set v.cells.toList p.1 0 us (by simp; omega)
          simp only [Nat.add_zero, Array.length_toList, hvs] at this
          rw [← this, ← Array.foldl_toList]
          congr 1
          simp
        obtain ⟨us', u1, u2⟩ := fill_ok place parts vparts _ cs' (us.toList.take p.1 ++ v.cells.toList ++ us.toList.drop (p.1 + p.2)).toArray hp
          (by simpa using ((hc.take p.1).append (hv.cellsRel c1)).append (hc.drop (p.1 + p.2))) h
        refine ⟨us', ?_, u2⟩
        simp only [Instr.fill, hpl]
        rw [if_neg (by simp; omega), hfold]
        exact u1
      · cases h
  | [], _ :: _, _, _, _, hp, _, _ => hp.elim
  | _ :: _, [], _, _, _, hp, _, _ => hp.elim

def plc (P : Program) (t : TypeId) : Option (List (Nat × Nat)) :=
  match P.underlying t with
  | some (.struct fields) => fields.toList.mapM fun f => (P.info? f.type).map fun i => (f.offset, i.size)
  | some (.array n e) => (P.info? e).map fun i => (List.range n).map fun k => (k * i.size, i.size)
  | _ => none

def aBuild (E : Env) (t : TypeId) (parts : List (Nat × AV)) (K : AV → Prop) : Prop :=
  match azero E.P t, plc E.P t with
  | .agg cs, some pl => (match aFill (fun i => pl[i]?) cs parts with
    | some cs' => K (.agg cs')
    | none => False)
  | _, _ => False

theorem fill_mono {p q : Nat → Option (Nat × Nat)} (h : ∀ i x, p i = some x → q i = some x) : ∀ (parts : List (Nat × Value)) (us us' : Array Value), Instr.fill p us parts = some us' → Instr.fill q us parts = some us'
  | [], us, us', hf => hf
  | (i, v) :: parts, us, us', hf => by
    simp only [Instr.fill] at hf ⊢
    cases hp : p i with
    | none => simp [hp] at hf
    | some x =>
      simp only [hp] at hf
      simp only [h i x hp]
      split at hf
      · cases hf
      · rename_i hc
        rw [if_neg hc]
        exact fill_mono h parts _ us' hf

theorem aBuild_ok {E : Env} {Γ : Ctx} {σ : Store} {w : World} {t : TypeId} {parts : List (Nat × AV)} {vparts : Array (Nat × Value)} {K : AV → Store → Prop} (hr : R E Γ σ w) (hp : PartsRel Γ w parts vparts.toList)
    (h : aBuild E t parts fun a => K a σ) : Up E Γ w K ((do pure (.value (← Instr.build t vparts)) : Sem Next).run E.P w) := by
  unfold aBuild at h
  split at h
  · rename_i cs pl hz hpl
    split at h
    · rename_i cs' hf
      obtain ⟨z, hz1, hz2⟩ := run_azero (E := E) (Γ := Γ) (w := w) (t := t) (by rw [hz]; rfl)
      rw [hz] at hz2
      obtain ⟨xs, rfl⟩ : ∃ xs, z = .agg xs := by cases hz2; exact ⟨_, rfl⟩
      obtain ⟨us', u1, u2⟩ := fill_ok _ parts vparts.toList cs cs' xs hp (by have := hz2.cellsRel rfl; simpa [AV.cells, Value.cells] using this) hf
      have hzi : ∃ it, E.P.info? t = some it ∧ it.zero = some (.agg xs) := by
        cases hi : E.P.info? t with
        | none => simp [zeroValue, typeInfo, hi] at hz1
        | some it =>
          cases hzz : it.zero with
          | none => simp [zeroValue, typeInfo, hi, hzz] at hz1
          | some z' => simp [zeroValue, typeInfo, hi, hzz] at hz1; exact ⟨it, rfl, by rw [hzz, hz1]⟩
      obtain ⟨it, hi, hzz⟩ := hzi
      have hb : E.P.built t vparts.toList = some us' := by
        unfold plc at hpl
        unfold Program.built
        split at hpl
        · rename_i fields hu
          simp only [hi, hu, hzz, hpl, Value.cells]
          simpa using u1
        · rename_i n e hu
          cases hie : E.P.info? e with
          | none => simp [hie] at hpl
          | some ie =>
            simp only [hie, Option.map_some, Option.some.injEq] at hpl
            simp only [hi, hu, hzz, hie, Value.cells]
            refine fill_mono ?_ _ _ _ u1
            intro k x hk
            subst hpl
            simp only [List.getElem?_map, Option.map_eq_some_iff] at hk
            obtain ⟨y, hy, rfl⟩ := hk
            obtain ⟨hy1, hy2⟩ := List.getElem?_eq_some_iff.1 hy
            simp at hy2; subst hy2; rfl
        · cases hpl
      refine Up.value (v := .agg us') (w' := w) (run_build w t vparts us' hb) (Res.same hr ?_ h)
      have := u2.agg
      simpa using this
    · exact h.elim
  · exact h.elim

/-! ### Elements of a slice -/
theorem CellsAt.append {Γ : Ctx} {w : World} {b o : Nat} {as bs : List AV} (h : CellsAt Γ w b o as) (k : CellsAt Γ w b (o + as.length) bs) : CellsAt Γ w b o (as ++ bs) := by
  intro j x hx
  by_cases hj : j < as.length
  · rw [List.getElem?_append_left hj] at hx
    exact h j x hx
  · rw [List.getElem?_append_right (by omega)] at hx
    have := k _ x hx
    rwa [show o + as.length + (j - as.length) = o + j by omega] at this

/-- The cells of all elements, one after the other. -/
def flat (es : List AV) : List AV := es.flatMap AV.cells

theorem flat_length {sz : Nat} : ∀ {es : List AV}, (∀ e ∈ es, e.cells.length = sz) → (flat es).length = es.length * sz
  | [], _ => by simp [flat]
  | e :: es, h => by
    have := flat_length (es := es) (sz := sz) (fun e he => h e (by simp [he]))
    unfold flat at this ⊢
    simp only [List.flatMap_cons, List.length_append, List.length_cons, this, h e (by simp)]
    rw [Nat.succ_mul]; omega

theorem flat_append (a b : List AV) : flat (a ++ b) = flat a ++ flat b := by simp [flat]

theorem flat_at {Γ : Ctx} {w : World} {b sz : Nat} : ∀ {es : List AV} {o : Nat}, (∀ e ∈ es, e.cells.length = sz) →
    (∀ (k : Nat) (e : AV) (j : Nat) (x : AV), es[k]? = some e → e.cells[j]? = some x → ∃ u, w.cell? ⟨b, o + k * sz + j, none⟩ = some u ∧ u.oneCell' = true ∧ VR Γ w x u) → CellsAt Γ w b o (flat es)
  | [], o, _, _ => by intro j x hx; simp [flat] at hx
  | e :: es, o, hs, h => by
    have he := hs e (by simp)
    refine CellsAt.append (fun j x hx => by simpa using h 0 e j x rfl hx) ?_
    rw [he]
    refine flat_at (fun e he => hs e (by simp [he])) fun k e' j x hk hj => ?_
    have := h (k + 1) e' j x (by simpa using hk) hj
    rwa [show o + (k + 1) * sz + j = o + sz + k * sz + j by rw [Nat.succ_mul]; omega] at this

theorem flat_get {sz : Nat} : ∀ {es : List AV} {k : Nat} {e : AV} {j : Nat} {x : AV}, (∀ e ∈ es, e.cells.length = sz) → es[k]? = some e → e.cells[j]? = some x → (flat es)[k * sz + j]? = some x
  | [], k, e, j, x, _, hk, _ => by simp at hk
  | e0 :: es, k, e, j, x, hs, hk, hj => by
    have he0 := hs e0 (by simp)
    have hjl : j < sz := by
      have := (List.getElem?_eq_some_iff.1 hj).1
      rw [hs e (List.mem_of_getElem? hk)] at this; exact this
    unfold flat
    rw [List.flatMap_cons]
    cases k with
    | zero =>
      simp at hk; subst hk
      rw [List.getElem?_append_left (by omega)]; simpa using hj
    | succ k =>
      have := flat_get (es := es) (fun e he => hs e (by simp [he])) (by simpa using hk) hj
      rw [List.getElem?_append_right (by rw [he0, Nat.succ_mul]; omega), he0, show (k + 1) * sz + j - sz = k * sz + j by rw [Nat.succ_mul]; omega]
      exact this

/-- A byte as an element. -/
def byteV (b : UInt8) : AV := .c (.int .u8 b.toNat)

/-- A slice (or a string) that is read: its elements. -/
def aElems (σ : Store) (x : AV) : Option (List AV) :=
  match x with
  | .ps es => some es
  | .nl => some []
  | .c (.string s) => some (s.data.toList.map byteV)
  | .rs i g off len => match σ.get i with
    | some (.arr _ g' es) => if g = g' ∧ off + len ≤ es.length then some ((es.drop off).take len) else none
    | _ => none
  | _ => none

theorem run_lenOf {E : Env} {Γ : Ctx} {σ : Store} {w : World} {x : AV} {xv : Value} {es : List AV} (hx : VR Γ w x xv) (h : aElems σ x = some es) (w' : World) : (Builtin.lenOf xv).run E.P w' = .ok es.length w' := by
  unfold aElems at h
  split at h
  · cases h; cases hx; simp [Builtin.lenOf]
  · cases h; cases hx; simp [Builtin.lenOf]
  · cases h; cases hx; simp [Builtin.lenOf]
  · split at h
    · split at h
      · rename_i hc; cases h; cases hx; simp [Builtin.lenOf]; omega
      · cases h
    · cases h
  · cases h

/-- What is read stands in cells (or is a string). -/
theorem run_firstCells {E : Env} {Γ : Ctx} {σ : Store} {w : World} {x : AV} {xv : Value} {es : List AV} {sz : Nat} (hr : R E Γ σ w) (hx : VR Γ w x xv) (h : aElems σ x = some es) (hs : ∀ e ∈ es, e.cells.length = sz) :
    ∃ us : List Value, CellsRel Γ w (flat es) us ∧ ∀ w', w'.heap = w.heap → (Builtin.firstCells sz es.length xv).run E.P w' = .ok us.toArray w' := by
  have hrow : ∀ (a : Option Addr) (len cap : Nat), (es ≠ [] → ∃ b o, a = some ⟨b, o, none⟩ ∧ CellsAt Γ w b o (flat es)) →
      ∃ us : List Value, CellsRel Γ w (flat es) us ∧ ∀ w', w'.heap = w.heap → (Builtin.firstCells sz es.length (.slice a len cap)).run E.P w' = .ok us.toArray w' := by
    intro a len cap hca
    by_cases hne : es = []
    · subst hne
      refine ⟨[], ⟨rfl, by simp, by simp [flat]⟩, fun w' _ => ?_⟩
      cases a with
      | none => simp [Builtin.firstCells]
      | some a => simp [Builtin.firstCells, loadCells, loadCellsFrom]
    · obtain ⟨b, o, rfl, hc⟩ := hca hne
      obtain ⟨us, a1, a2, a3, a4⟩ := hc.list
      refine ⟨us, ⟨a1, a3, a4⟩, fun w' hw' => ?_⟩
      exact run_firstCells_some (P := E.P) w' sz es.length ⟨b, o, none⟩ len cap us (by rw [a1, flat_length hs]) (fun j v hv => by
        rw [addr_add]
        have := a2 j v hv
        simpa [World.cell?, hw'] using this)
  unfold aElems at h
  split at h
  · cases h
    cases hx with
    | ps es a cap b o us hc ha hw h1 hv =>
      refine hrow a es.length cap fun hne => ⟨b, o, (ha hne).1, flat_at hs fun k e j y hk hj => ⟨us k j, ?_, h1 k e j y hk hj, hv k e j y hk hj⟩⟩
      have := (hw k e j y hk hj).1
      rwa [hs e (List.mem_of_getElem? hk)] at this
  · cases h
    cases hx with
    | nl a => exact hrow a 0 0 (fun h => absurd rfl h)
  · rename_i s
    cases h
    cases hx
    by_cases hne : s.data.toList = []
    · refine ⟨[], ?_, fun w' _ => ?_⟩
      · rw [hne]; exact ⟨rfl, by simp, by simp [flat]⟩
      · have : s.data = #[] := by cases hs' : s.data; simp [hs'] at hne; simp [hne]
        simp [Builtin.firstCells, hne, this]
    · have hsz : sz = 1 := by
        cases hd : s.data.toList with
        | nil => exact absurd hd hne
        | cons b bs => have := hs (byteV b) (by simp [hd]); simpa [byteV, AV.cells] using this.symm
      subst hsz
      refine ⟨s.data.toList.map fun b => .int .u8 b.toNat, ?_, fun w' _ => ?_⟩
      · have hfl : flat (s.data.toList.map byteV) = s.data.toList.map byteV := by
          unfold flat; induction s.data.toList with
          | nil => rfl
          | cons b bs ih => simp only [List.map_cons, List.flatMap_cons, ih]; simp [byteV, AV.cells]
        rw [hfl]
        refine ⟨by simp, by simp [Value.oneCell'], ?_⟩
        intro j y u hy hu
        simp only [List.getElem?_map, Option.map_eq_some_iff] at hy hu
        obtain ⟨b1, hb1, rfl⟩ := hy
        obtain ⟨b2, hb2, rfl⟩ := hu
        rw [hb1] at hb2; cases hb2
        exact .c _ rfl
      · simp [Builtin.firstCells]
        apply Array.ext'
        simp
  · rename_i i g off len
    split at h
    · rename_i T g' es' hget
      split at h
      · rename_i hc
        obtain ⟨rfl, hle⟩ := hc
        cases h
        obtain ⟨l, hl, ho, _⟩ := hr.loc hget
        simp only [ObjRel] at ho
        obtain ⟨o1, o2, o3, o4, o5, o6⟩ := ho
        cases hx with
        | rs i g off len ad cap hi hlc hat =>
          have hat' := (hat l hl).2 o1
          refine hrow ad len cap fun hne => ?_
          have hlen : 0 < len := by
            rcases Nat.eq_zero_or_pos len with h0 | h0
            · subst h0; simp at hne
            · exact h0
          unfold Loc.rsAt at hat'
          cases hb : l.blk with
          | none => simp only [hb] at hat'; omega
          | some b =>
            simp only [hb] at hat' o6
            obtain ⟨a1, a2, a3⟩ := hat'
            have had : ad = some ⟨b, off * l.sz, none⟩ := by rcases a2 with a2 | a2; omega; exact a2
            subst had
            refine ⟨b, off * l.sz, rfl, flat_at hs fun k e j y hk hj => ?_⟩
            obtain ⟨xs, fr, q1, q2, q3, q4⟩ := o6
            rw [List.getElem?_take] at hk
            split at hk
            · rw [List.getElem?_drop] at hk
              obtain ⟨u, u1, u2, u3⟩ := q4 _ e j y hk hj
              have hsz : sz = l.sz := by rw [← o3 e (List.mem_of_getElem? hk)]; exact (hs e (by
                refine List.mem_of_getElem? (i := k) ?_
                rw [List.getElem?_take, if_pos (by assumption), List.getElem?_drop]; exact hk)).symm
              refine ⟨u, ?_, u2, u3⟩
              have e1 : off * l.sz + k * sz + j = (off + k) * l.sz + j := by rw [hsz, Nat.add_mul]
              rw [e1]
              simp [World.cell?, q1, u1]
            · cases hk
      · cases h
    · cases h
  · cases h

/-! ### append -/
def tby (P : Program) (t : TypeId) : Nat := ((P.info? t).map (·.bytes)).getD 0

def aAppend (E : Env) (t u : TypeId) (s x : AV) (σ : Store) (K : AV → Store → Prop) : Prop :=
  (tk E.P u = .str ∨ ∃ e, tk E.P u = .slc e) ∧ match tk E.P t with
    | .slc e => tsz E.P e ≠ 0 ∧ (azero E.P e).ok = true ∧ tsz E.P e = (azero E.P e).cells.length ∧ (match aElems σ x with
      | some news => (∀ a ∈ news, a.cells.length = tsz E.P e) ∧ (match s with
        | .nl => news.length * tby E.P e ≤ 140737488355328 ∧ news.length ≤ maxLen ∧ (news = [] → K .nl σ) ∧ (news ≠ [] → K (.rs σ.next 0 0 news.length) (σ.alloc (.arr e 0 news)))
        | .rs i g off len => (match σ.get i with
          | some (.arr T g' es) => off = 0 ∧ g = g' ∧ T = e ∧ len = es.length ∧ (es.length + news.length) * tby E.P e ≤ 140737488355328 ∧ es.length + news.length ≤ maxLen ∧
              K (.rs i (g + 1) 0 (len + news.length)) (σ.set i (.arr e (g + 1) (es ++ news)))
          | _ => False)
        | _ => False)
      | none => False)
    | _ => False

theorem zeroCells_get (z : Array Value) (n m : Nat) (u : Value) (h : (Builtin.zeroCells z n)[m]? = some u) : u ∈ z := by
  unfold Builtin.zeroCells at h
  simp only [Array.getElem?_map, Option.map_eq_some_iff] at h
  obtain ⟨y, hy, rfl⟩ := h
  obtain ⟨hy1, hy2⟩ := Array.getElem?_eq_some_iff.1 hy
  simp at hy1 hy2
  subst hy2
  have hz : 0 < z.size := by
    rcases Nat.eq_zero_or_pos z.size with h0 | h0
    · rw [h0] at hy1; omega
    · exact h0
  have : m % z.size < z.size := Nat.mod_lt _ hz
  simp [this]

/-- The world after an append in place. -/
def inPlace (w : World) (a : Option Addr) (k : Nat) (news : List Value) : World :=
  match a with
  | none => w
  | some ad => match w.heap[ad.block]? with
    | some (.cells xs _ _) => w.setRow ad.block (xs.toList.take k ++ news ++ xs.toList.drop (k + news.length)).toArray
    | _ => w

/-- What an append yields: either in place, or in a new row. -/
theorem run_append_gen {P : Program} {w : World} {t u ty e : TypeId} {i : TypeInfo} {z : Value} {sz : Nat} (ht : P.underlying t = some (.slice e)) (hu : P.underlying u = some .string ∨ ∃ e', P.underlying u = some (.slice e'))
    (hi : P.info? e = some i) (hz : i.zero = some z) (hsize : i.size = sz)
    {a : Option Addr} {n cap m : Nat} {xv : Value} {olds news : List Value} (hlen : ∀ w' : World, (Builtin.lenOf xv).run P w' = .ok m w')
    (hnew : ∀ w' : World, w'.heap = w.heap → (Builtin.firstCells sz m xv).run P w' = .ok news.toArray w') (hnl : news.length = m * sz) (hn1 : ∀ u ∈ news, u.oneCell' = true)
    (hold : ∀ w' : World, w'.heap = w.heap → (Builtin.firstCells sz n (.slice a n cap)).run P w' = .ok olds.toArray w') (hol : olds.length = n * sz) (hncap : n ≤ cap)
    (hrow : n + m ≤ cap → ∀ ad, a = some ad → ∃ b xs fr, ad = ⟨b, 0, none⟩ ∧ w.heap[b]? = some (.cells xs e fr) ∧ (fr.1 = fr.2 ∨ xs.size ≤ fr.1) ∧ xs.size = cap * sz)
    (h63 : n + m ≤ maxLen) (hby : (n + m) * i.bytes ≤ 140737488355328) :
    (n + m ≤ cap ∧ (Builtin.append_ #[t, u] ty #[.slice a n cap, xv]).run P w = .ok (.slice a (n + m) cap) (inPlace w a (n * sz) news)) ∨
    ∃ c, n + m ≤ c ∧ c ≤ maxLen ∧ (Builtin.append_ #[t, u] ty #[.slice a n cap, xv]).run P w = .ok (.slice (some ⟨w.heap.size, 0, none⟩) (n + m) c)
        (w.drew.alloc (.cells (olds.toArray ++ (news.toArray ++ Builtin.zeroCells z.cells (c - (n + m)))) e)) := by
  by_cases hroom : n + m ≤ cap
  · left
    refine ⟨hroom, ?_⟩
    have hn := hnew w rfl
    cases a with
    | none =>
      rcases hu with hu | ⟨e', hu⟩ <;> simp [Builtin.append_, run_underlying ht, run_underlying hu, sizeOf, typeInfo, hi, hsize, hlen, hroom, hn, inPlace]
    | some ad =>
      obtain ⟨b, xs, fr, rfl, q1, q2, q3⟩ := hrow hroom ad rfl
      have hst := run_storeCells_free P b (n * sz) e fr news 0 xs w q1 q2 (by rw [hnl, q3, Nat.add_zero, ← Nat.add_mul]; exact Nat.mul_le_mul_right _ hroom) hn1
      simp only [Nat.add_zero] at hst
      rcases hu with hu | ⟨e', hu⟩ <;> simp [Builtin.append_, run_underlying ht, run_underlying hu, sizeOf, typeInfo, hi, hsize, hlen, hroom, hn, addr_add, hst, q1, inPlace]
  · right
    refine ⟨grownCap w (n + m) cap e, grownCap_ge _ _ _ _, grownCap_le_maxLen _ _ _ _ h63, ?_⟩
    have h63' : ¬ (9223372036854775807 < ((n : Int) + (m : Int))) := by simp only [maxLen] at h63; omega
    have h48 := growslice_fits (bytes := i.bytes) (show cap < n + m by omega) hby
    have h48' : ¬ (281474976710656 < Builtin.nextslicecap (n + m) cap * i.bytes) := by omega
    have hn := hnew w.drew rfl
    have ho := hold w.drew rfl
    have hd : ({ w with drawn := w.drawn + 1 } : World) = w.drew := rfl
    rcases hu with hu | ⟨e', hu⟩ <;>
      simp [Builtin.append_, run_underlying ht, run_underlying hu, sizeOf, typeInfo, zeroValue, hi, hz, hsize, hlen, hroom, h63', h48', Question.forced, hn, ho, newRow, grownCap] <;> rfl

theorem run_append_zero {P : Program} {w : World} {t u ty e : TypeId} {i : TypeInfo} {sz : Nat} (ht : P.underlying t = some (.slice e)) (hu : P.underlying u = some .string ∨ ∃ e', P.underlying u = some (.slice e'))
    (hi : P.info? e = some i) (hsize : i.size = sz) {a : Option Addr} {n cap : Nat} {xv : Value} (hlen : ∀ w' : World, (Builtin.lenOf xv).run P w' = .ok 0 w')
    (hnew : ∀ w' : World, w'.heap = w.heap → (Builtin.firstCells sz 0 xv).run P w' = .ok #[] w') (hncap : n ≤ cap) :
    (Builtin.append_ #[t, u] ty #[.slice a n cap, xv]).run P w = .ok (.slice a n cap) w := by
  have hn := hnew w rfl
  cases a with
  | none => rcases hu with hu | ⟨e', hu⟩ <;> simp [Builtin.append_, run_underlying ht, run_underlying hu, sizeOf, typeInfo, hi, hsize, hlen, hncap, hn]
  | some ad => rcases hu with hu | ⟨e', hu⟩ <;> simp [Builtin.append_, run_underlying ht, run_underlying hu, sizeOf, typeInfo, hi, hsize, hlen, hncap, hn, storeCells]

theorem grown_of_drew_alloc (w : World) (o : Obj) (row : Option Nat) : w.grownBy (w.drew.alloc o) row :=
  ⟨rfl, rfl, rfl, by simp, fun k hk _ => by show (w.heap.push o)[k]? = _; rw [Array.getElem?_push, if_neg (by omega)]⟩

theorem grownBy_self (w : World) (row : Option Nat) : w.grownBy w row := ⟨rfl, rfl, rfl, Nat.le_refl _, fun _ _ _ => rfl⟩

theorem VR.rs_inv {Γ : Ctx} {w : World} {i g off len : Nat} {v : Value} (h : VR Γ w (.rs i g off len) v) :
    ∃ a cap, v = .slice a len cap ∧ i < Γ.next ∧ len ≤ cap ∧ ∀ l, Γ.get i = some l → g ≤ l.gen ∧ (l.gen = g → l.rsAt off len a cap) := by
  cases h with
  | rs i g off len a cap hi hl h => exact ⟨a, cap, rfl, hi, hl, h⟩

/-- The cells of elements in a row. -/
theorem row_rel {Γ Γ' : Ctx} {w w' : World} (hx : ExtN Γ.next Γ w Γ' w') {sz : Nat} {es : List AV} {us : List Value} {xs : Array Value} (hs : ∀ e ∈ es, e.cells.length = sz) (hc : CellsRel Γ w (flat es) us)
    (hxs : ∀ (m : Nat) (u : Value), us[m]? = some u → xs[m]? = some u) :
    ∀ (k : Nat) (e : AV) (j : Nat) (x : AV), es[k]? = some e → e.cells[j]? = some x → ∃ u, xs[k * sz + j]? = some u ∧ u.oneCell' = true ∧ VR Γ' w' x u := by
  intro k e j x hk hj
  have hf := flat_get hs hk hj
  have hlt : k * sz + j < us.length := by rw [hc.1]; exact (List.getElem?_eq_some_iff.1 hf).1
  have hu := List.getElem?_eq_getElem hlt
  exact ⟨_, hxs _ _ hu, hc.2.1 _ (List.mem_of_getElem? hu), (hc.2.2 _ _ _ hf hu).ext hx⟩

theorem aAppend_ok {E : Env} {Γ : Ctx} {σ : Store} {w : World} {t u ty : TypeId} {s x : AV} {sv xv : Value} {K : AV → Store → Prop} (hr : R E Γ σ w) (hsv : VR Γ w s sv) (hxv : VR Γ w x xv)
    (h : aAppend E t u s x σ K) : ∃ v w', (Builtin.append_ #[t, u] ty #[sv, xv]).run E.P w = .ok v w' ∧ Res E Γ w K v w' := by
  obtain ⟨hu', h⟩ := h
  have hu : E.P.underlying u = some .string ∨ ∃ e', E.P.underlying u = some (.slice e') := by
    rcases hu' with hu' | ⟨e, hu'⟩
    · exact .inl (tk_str hu')
    · exact .inr ⟨e, tk_slc hu'⟩
  split at h
  · rename_i e ht'
    have ht := tk_slc ht'
    obtain ⟨hnz, hzok, hzs, h⟩ := h
    obtain ⟨i, hi, hsize⟩ : ∃ i, E.P.info? e = some i ∧ i.size = tsz E.P e := by
      unfold tsz cellsOf' at *
      cases hi : E.P.info? e with
      | none => simp [hi] at hnz
      | some i => exact ⟨i, rfl, by simp⟩
    have hby : tby E.P e = i.bytes := by simp [tby, hi]
    obtain ⟨z, hz, hzv⟩ : ∃ z, i.zero = some z ∧ VR Γ w (azero E.P e) z := by
      unfold azero tzero at *
      cases hzz : i.zero with
      | none => simp [hi, hzz, AV.ok] at hzok
      | some z => exact ⟨z, rfl, by simpa [hi, hzz] using VR.ofV Γ w z⟩
    have hzsz : z.cells.size = tsz E.P e := by rw [hzs]; exact ((hzv.cells hzok).1).symm
    split at h
    · rename_i news hel
      obtain ⟨hns, h⟩ := h
      have hlen := fun w' => run_lenOf (E := E) hxv hel w'
      obtain ⟨us, husc, hnew⟩ := run_firstCells hr hxv hel hns
      have husl : us.length = news.length * tsz E.P e := by rw [husc.1, flat_length hns]
      split at h
      · -- nothing yet
        obtain ⟨hb, hm, h0, h1⟩ := h
        obtain ⟨a, rfl⟩ : ∃ a, sv = .slice a 0 0 := by cases hsv; exact ⟨_, rfl⟩
        by_cases hne : news = []
        · subst hne
          have : us = [] := List.eq_nil_of_length_eq_zero (by simpa using husl)
          subst this
          exact ⟨_, _, run_append_zero ht hu hi hsize (by simpa using hlen) (by simpa using hnew) (Nat.le_refl 0), Res.same hr hsv (h0 rfl)⟩
        · have hpos : 0 < news.length := by
            cases news with
            | nil => exact absurd rfl hne
            | cons _ _ => simp
          rcases run_append_gen (ty := ty) (cap := 0) (n := 0) (a := a) (olds := []) ht hu hi hz hsize hlen hnew husl husc.2.1 (fun w' _ => by cases a <;> simp [Builtin.firstCells, loadCells, loadCellsFrom]) (by simp) (Nat.le_refl 0)
            (fun hh => by omega) (by simpa using hm) (by rw [← hby]; simpa using hb) with ⟨hh, _⟩ | ⟨c, c1, c2, hrun⟩
          · omega
          · simp only [Nat.zero_add] at hrun c1
            refine ⟨_, _, hrun, ?_⟩
            have key : ∀ (hx : ExtN Γ.next Γ w (Γ.alloc ⟨some w.heap.size, tsz E.P e, c, 0, none⟩) (w.drew.alloc (.cells (([] : List Value).toArray ++ (us.toArray ++ Builtin.zeroCells z.cells (c - news.length))) e))),
                ObjRel E.P (Γ.alloc ⟨some w.heap.size, tsz E.P e, c, 0, none⟩) (w.drew.alloc (.cells (([] : List Value).toArray ++ (us.toArray ++ Builtin.zeroCells z.cells (c - news.length))) e)) (.arr e 0 news) ⟨some w.heap.size, tsz E.P e, c, 0, none⟩ := by
              intro hx
              refine ⟨rfl, rfl, hns, c1, c2, _, (0, 0), heap_alloc_new w.drew _, .inl rfl, ?_, ?_⟩
              · simp only [Array.size_append, List.size_toArray, size_zeroCells, hzsz, husl, List.length_nil]
                rw [Nat.zero_add, ← Nat.add_mul]; congr 1; omega
              · refine row_rel hx hns husc ?_
                intro m v hv
                simp only [Array.getElem?_append, List.size_toArray, List.length_nil, Nat.not_lt_zero, if_false, Nat.sub_zero, List.getElem?_toArray]
                rw [if_pos (List.getElem?_eq_some_iff.1 hv).1]; exact hv
            obtain ⟨hx', hR⟩ := hr.new (grown_of_drew_alloc w _ none) (.inr ⟨_, rfl, Nat.le_refl _⟩) rfl key
            refine ⟨_, _, _, hx', hR, ?_, h1 hne⟩
            refine .rs σ.next 0 0 news.length _ c (by simp [Ctx.alloc, hr.next]) c1 ?_
            intro l hl
            simp [Ctx.alloc, hr.next] at hl
            subst hl
            exact ⟨Nat.le_refl _, fun _ => ⟨by simp, .inr (by simp), fun _ => rfl⟩⟩
      · -- an object
        rename_i ii gg off len
        split at h
        · rename_i T g' es hget
          obtain ⟨rfl, rfl, rfl, rfl, hb, hm, h⟩ := h
          obtain ⟨l, hl, ho, hlt⟩ := hr.loc hget
          obtain ⟨a, cap, rfl, hin, hlc, hat⟩ := hsv.rs_inv
          simp only [ObjRel] at ho
          obtain ⟨o1, o2, o3, o4, o5, o6⟩ := ho
          have hat' := (hat l hl).2 o1
          have hsz : l.sz = tsz E.P T := o2
          have hes : ∀ x ∈ es, x.cells.length = tsz E.P T := fun x hx => by rw [← hsz]; exact o3 x hx
          have hall : ∀ x ∈ es ++ news, x.cells.length = tsz E.P T := fun x hx => by
            rcases List.mem_append.1 hx with hx | hx
            · exact hes x hx
            · exact hns x hx
          have hold : ∃ olds : List Value, CellsRel Γ w (flat es) olds ∧ ∀ w', w'.heap = w.heap → (Builtin.firstCells (tsz E.P T) es.length (.slice a es.length cap)).run E.P w' = .ok olds.toArray w' := by
            have := run_firstCells (x := .rs ii gg 0 es.length) (es := es) hr hsv (by simp [aElems, hget]) hes
            exact this
          obtain ⟨olds, ho1, ho2⟩ := hold
          have holl : olds.length = es.length * tsz E.P T := by rw [ho1.1, flat_length hes]
          have hstep : ∀ (w' : World) (l' : Loc) (v : Value), w.grownBy w' l.blk → l'.gen = gg + 1 → (l'.blk = l.blk ∨ ∃ b', l'.blk = some b' ∧ w.heap.size ≤ b') →
              (∀ (hx : ExtN Γ.next Γ w (Γ.set ii l') w'), ObjRel E.P (Γ.set ii l') w' (.arr T (gg + 1) (es ++ news)) l') →
              l'.lim = none → (∃ a' cap', v = .slice a' (es.length + news.length) cap' ∧ es.length + news.length ≤ cap' ∧ l'.rsAt 0 (es.length + news.length) a' cap') → Res E Γ w K v w' := by
            rintro w' l' v hg hgen hblk hobj hlm ⟨a', cap', rfl, hc', hrs⟩
            obtain ⟨hx', hR⟩ := hr.upd hget hl hg (.inr (by omega)) hblk (fun b m _ hm => by rw [hr.lims _ _ _ hget hl] at hm; cases hm) (o' := .arr T (gg + 1) (es ++ news)) hlm hobj
            refine ⟨_, _, _, hx', hR, ?_, h⟩
            refine .rs ii (gg + 1) 0 _ a' cap' (by simpa [Ctx.set] using hin) hc' ?_
            intro l2 hl2
            simp [Ctx.set] at hl2
            subst hl2
            exact ⟨by omega, fun _ => hrs⟩
          by_cases hne : news = []
          · subst hne
            have : us = [] := List.eq_nil_of_length_eq_zero (by simpa using husl)
            subst this
            refine ⟨_, _, run_append_zero ht hu hi hsize (by simpa using hlen) (by simpa using hnew) hlc, ?_⟩
            refine hstep w { l with gen := gg + 1 } _ (grownBy_self w _) rfl (.inl rfl) ?_ (show l.lim = none from (hr.lims _ _ _ hget hl).trans rfl) ⟨a, cap, by simp, by simpa using hlc, ?_⟩
            · intro hx
              refine ⟨rfl, o2, by simpa using o3, by simpa using o4, o5, ?_⟩
              cases hb' : l.blk with
              | none => simp only [hb'] at o6 ⊢; simpa using o6
              | some b =>
                simp only [hb'] at o6 ⊢
                obtain ⟨xs, fr, q1, q2, q3, q4⟩ := o6
                refine ⟨xs, fr, q1, q2, q3, fun k y j x hk hj => ?_⟩
                obtain ⟨v, v1, v2, v3⟩ := q4 k y j x (by simpa using hk) hj
                exact ⟨v, v1, v2, by simpa only [hb'] using v3.ext hx⟩
            · unfold Loc.rsAt at hat' ⊢; simpa using hat'
          · have hpos : 0 < news.length := by
              cases news with
              | nil => exact absurd rfl hne
              | cons _ _ => simp
            have hrow : es.length + news.length ≤ cap → ∀ ad, a = some ad → ∃ b xs fr, ad = ⟨b, 0, none⟩ ∧ w.heap[b]? = some (.cells xs T fr) ∧ (fr.1 = fr.2 ∨ xs.size ≤ fr.1) ∧ xs.size = cap * tsz E.P T := by
              intro hroom ad had
              unfold Loc.rsAt at hat'
              cases hb' : l.blk with
              | none => simp only [hb'] at hat'; omega
              | some b =>
                simp only [hb'] at hat' o6
                obtain ⟨a1, a2, a3⟩ := hat'
                have := a3 (by first | rfl | trivial)
                rw [this] at had; cases had
                obtain ⟨xs, fr, q1, q2, q3, q4⟩ := o6
                exact ⟨b, xs, fr, rfl, q1, q2.imp id And.left, by rw [q3, hsz]; congr 1; omega⟩
            rcases run_append_gen (ty := ty) (cap := cap) (n := es.length) (a := a) (olds := olds) ht hu hi hz hsize hlen hnew husl husc.2.1 ho2 holl hlc hrow hm (by rw [← hby]; exact hb) with ⟨hroom, hrun⟩ | ⟨c, c1, c2, hrun⟩
            · -- in place
              refine ⟨_, _, hrun, ?_⟩
              unfold Loc.rsAt at hat'
              cases hb' : l.blk with
              | none => simp only [hb'] at hat'; omega
              | some b =>
                simp only [hb'] at hat' o6
                obtain ⟨a1, a2, a3⟩ := hat'
                have had := a3 (by first | rfl | trivial)
                subst had
                obtain ⟨xs, fr, q1, q2, q3, q4⟩ := o6
                have hcap : cap = l.cap := by omega
                have hin' : inPlace w (some ⟨b, 0, none⟩) (es.length * tsz E.P T) us = w.setRow b (xs.toList.take (es.length * tsz E.P T) ++ us ++ xs.toList.drop (es.length * tsz E.P T + us.length)).toArray := by
                  simp only [inPlace, q1]
                rw [hin']
                have hfit : es.length * tsz E.P T + us.length ≤ xs.size := by
                  rw [husl, q3, ← hcap, hsz, ← Nat.add_mul]; exact Nat.mul_le_mul_right _ hroom
                refine hstep _ { l with gen := gg + 1 } _ ⟨rfl, rfl, rfl, by simp, fun j _ hj => setRow_other w b j _ (fun e => hj (by rw [hb', e]))⟩ rfl (.inl rfl) ?_ (show l.lim = none from (hr.lims _ _ _ hget hl).trans rfl) ⟨_, cap, rfl, hroom, ?_⟩
                · intro hx
                  refine ⟨rfl, o2, fun y hy => by rw [hall y hy]; exact hsz.symm, by simp; omega, o5, ?_⟩
                  simp only [hb']
                  refine ⟨_, fr, setRow_heap w b xs _ T fr q1, ?_, ?_, ?_⟩
                  · rcases q2 with q2 | q2
                    · exact .inl q2
                    · right; simp; omega
                  · simp; omega
                  · intro k y j x hk hj
                    have hyl : y.cells.length = tsz E.P T := hall y (List.mem_of_getElem? hk)
                    have hjl : j < tsz E.P T := by rw [← hyl]; exact (List.getElem?_eq_some_iff.1 hj).1
                    simp only [List.getElem?_toArray, hsz]
                    rw [splice_get xs.toList us (es.length * tsz E.P T) (k * tsz E.P T + j) (by simpa using hfit)]
                    by_cases hkn : k < es.length
                    · rw [List.getElem?_append_left hkn] at hk
                      have : (k + 1) * tsz E.P T ≤ es.length * tsz E.P T := Nat.mul_le_mul_right _ hkn
                      rw [Nat.succ_mul] at this
                      rw [if_pos (by omega)]
                      obtain ⟨v, v1, v2, v3⟩ := q4 k y j x hk hj
                      rw [hsz] at v1
                      exact ⟨v, by simpa using v1, v2, by simpa only [hb', hsz] using v3.ext hx⟩
                    · rw [List.getElem?_append_right (by omega)] at hk
                      have hf := flat_get hns hk hj
                      have hfl := (List.getElem?_eq_some_iff.1 hf).1
                      rw [flat_length hns] at hfl
                      have e1 : k * tsz E.P T = es.length * tsz E.P T + (k - es.length) * tsz E.P T := by rw [← Nat.add_mul]; congr 1; omega
                      rw [if_neg (by rw [e1]; omega), if_pos (by rw [e1, husl]; omega)]
                      have e2 : k * tsz E.P T + j - es.length * tsz E.P T = (k - es.length) * tsz E.P T + j := by rw [e1]; omega
                      rw [e2]
                      have hul : (k - es.length) * tsz E.P T + j < us.length := by rw [husl]; exact hfl
                      have hu2 := List.getElem?_eq_getElem hul
                      exact ⟨_, hu2, husc.2.1 _ (List.mem_of_getElem? hu2), by simpa only [hb', hsz] using (husc.2.2 _ _ _ hf hu2).ext hx⟩
                · unfold Loc.rsAt
                  simp only [hb']
                  exact ⟨by omega, .inr (by simp), by simp⟩
            · -- in a new row
              refine ⟨_, _, hrun, ?_⟩
              refine hstep _ ⟨some w.heap.size, tsz E.P T, c, gg + 1, none⟩ _ (grown_of_drew_alloc w _ _) rfl (.inr ⟨_, rfl, Nat.le_refl _⟩) ?_ rfl ⟨_, c, rfl, c1, by simp, .inr (by simp), fun _ => rfl⟩
              intro hx
              refine ⟨rfl, rfl, hall, by simpa using c1, c2, _, (0, 0), heap_alloc_new w.drew _, .inl rfl, ?_, ?_⟩
              · simp only [Array.size_append, List.size_toArray, size_zeroCells, hzsz, husl, holl]
                rw [← Nat.add_mul, ← Nat.add_mul]; congr 1; omega
              · refine row_rel hx hall (us := olds ++ us) (by rw [flat_append]; exact ho1.append husc) ?_
                intro m v hv
                have hml := (List.getElem?_eq_some_iff.1 hv).1
                simp only [Array.getElem?_append, List.size_toArray, List.getElem?_toArray]
                rw [List.getElem?_append] at hv
                split
                · rw [if_pos (by assumption)] at hv; exact hv
                · rw [if_neg (by assumption)] at hv
                  rw [if_pos (by rw [List.length_append] at hml; omega)]
                  exact hv
        · exact h.elim
      · exact h.elim
    · exact h.elim
  · exact h.elim
end Go.AW
