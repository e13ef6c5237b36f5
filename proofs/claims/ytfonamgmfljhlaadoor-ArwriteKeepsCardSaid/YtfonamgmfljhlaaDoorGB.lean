/- Merged texts, in order: Cuts, literals of slices, make, len; then one condition for every operation. No condition. | Rows of the store that are written in part: copy, clear, append into known room, a slice whose capacity is known. No condition. | append into known room, beyond a known capacity, and of made elements; cap; the three-index cut. No condition. | Operations on maps, interfaces and iterators; panics. No condition. | One condition for every operation; calls; what a list of operations does. No condition. | Lists of operations, code, loops, what may be forgotten, and the contract of a function out of its text. No condition. -/
import Derived.Test.YtfonamgmfljhlaaDoorGA
import Derived.Lib.AppendZerosOnto
import Derived.Maps.RangeRun
import Derived.MapKept
import Derived.Laws.Cover3
section
set_option linter.unusedVariables false
set_option linter.unusedSimpArgs false
set_option linter.unnecessarySimpa false
namespace Go.AW
open Go

/-! ### Cuts -/
def ixOr (a : Option AV) (d : Int) : Option Int :=
  match a with
  | none => some d
  | some (.c (.int _ n)) => some n
  | _ => none

def aSlice (E : Env) (t : TypeId) (x : AV) (lo hi : Option AV) (σ : Store) (K : AV → Prop) : Prop :=
  match ixOr lo 0 with
  | none => False
  | some l => (match tk E.P t, x with
    | .str, .c (.string s) => (match ixOr hi s.size with
      | some h => 0 ≤ l ∧ l ≤ h ∧ h ≤ s.size ∧ K (.c (.string (s.extract l.toNat h.toNat)))
      | none => False)
    | .slc e, .ps es => (match ixOr hi es.length with
      | some h => 0 ≤ l ∧ l ≤ h ∧ h ≤ es.length ∧ tsz E.P e ≠ 0 ∧ (∀ a ∈ es, a.cells.length = tsz E.P e) ∧ K (.ps ((es.take h.toNat).drop l.toNat))
      | none => False)
    | .slc e, .rs i g off len => (match ixOr hi len with
      | some h => (match σ.get i with
        | some (.arr T g' es) => g = g' ∧ tsz E.P e = tsz E.P T ∧ 0 ≤ l ∧ l ≤ h ∧ (h ≤ len ∨ off + h ≤ es.length) ∧ tsz E.P e ≠ 0 ∧ K (.rs i g (off + l.toNat) (h.toNat - l.toNat))
        | _ => False)
      | none => False)
    | .slc e, .rc i g off len cap => (match ixOr hi len with
      | some h => (match σ.get i with
        | some (.arr T g' es) => g = g' ∧ tsz E.P e = tsz E.P T ∧ 0 ≤ l ∧ l ≤ h ∧ h ≤ cap ∧ tsz E.P e ≠ 0 ∧ K (.rc i g (off + l.toNat) (h.toNat - l.toNat) (cap - l.toNat))
        | _ => False)
      | none => False)
    | .slc e, .nl => (match ixOr hi 0 with
      | some h => l = 0 ∧ h = 0 ∧ tsz E.P e ≠ 0 ∧ K .nl
      | none => False)
    | _, _ => False)

/-- An index and its value. -/
def IxRel (Γ : Ctx) (w : World) : Option AV → Option Value → Prop
  | none, none => True
  | some a, some v => VR Γ w a v
  | _, _ => False

theorem ixOr_bound {Γ : Ctx} {w : World} {P : Program} {a : Option AV} {v : Option Value} {d n : Int} (h : IxRel Γ w a v) (hn : ixOr a d = some n) :
    (v = none ∧ a = none ∧ n = d) ∨ ∃ k, v = some (.int k n) := by
  unfold ixOr at hn
  split at hn
  · cases v with
    | none => cases hn; exact .inl ⟨rfl, rfl, rfl⟩
    | some v => exact h.elim
  · cases v with
    | none => exact h.elim
    | some v => cases hn; cases h; exact .inr ⟨_, rfl⟩
  · cases hn

theorem run_bounds {Γ : Ctx} {w : World} {P : Program} {lo hi : Option AV} {lov hiv : Option Value} (isSlice : Bool) {len cap : Nat} {l h : Int} (hlo : IxRel Γ w lo lov) (hhi : IxRel Γ w hi hiv) (hl : ixOr lo 0 = some l) (hh : ixOr hi len = some h)
    (h0 : 0 ≤ l) (h1 : l ≤ h) (h2 : h ≤ cap) : (Instr.sliceBounds isSlice len cap lov hiv none).run P w = .ok (l.toNat, h.toNat, cap) w := by
  have hb : ∀ (k : IntKind) (i : Int) (y : Nat) (code : BoundsCode), 0 ≤ i → i ≤ y → (Instr.sliceBound (.int k i) y code).run P w = .ok i.toNat w := fun k i y code a b => by simp [Instr.sliceBound, asIntOf, a, b]
  rcases ixOr_bound (P := P) hhi hh with ⟨rfl, _, rfl⟩ | ⟨kh, rfl⟩ <;> rcases ixOr_bound (P := P) hlo hl with ⟨rfl, _, rfl⟩ | ⟨kl, rfl⟩
  · simp [Instr.sliceBounds]
  · simp [Instr.sliceBounds, hb kl l len .sliceB h0 h1]
  · have hc : h ≤ (cap : Int) := by omega
    simp [Instr.sliceBounds, hb kh h cap _ (by omega) hc]
  · have hc : h ≤ (cap : Int) := by omega
    simp [Instr.sliceBounds, hb kh h cap _ (by omega) hc, hb kl l h.toNat .sliceB h0 (by omega)]

theorem aSlice_ok {E : Env} {Γ : Ctx} {σ : Store} {w : World} {t : TypeId} {x : AV} {xv : Value} {lo hi : Option AV} {lov hiv : Option Value} {K : AV → Store → Prop} (hr : R E Γ σ w) (hx : VR Γ w x xv)
    (hlo : IxRel Γ w lo lov) (hhi : IxRel Γ w hi hiv) (h : aSlice E t x lo hi σ fun a => K a σ) : Up E Γ w K ((do pure (.value (← Instr.sliceAt t xv lov hiv none)) : Sem Next).run E.P w) := by
  unfold aSlice at h
  split at h
  · exact h.elim
  · rename_i l hl
    split at h
    · rename_i s ht
      have hu := tk_str ht
      cases hx
      split at h
      · rename_i hh' hh
        obtain ⟨h0, h1, h2, h⟩ := h
        have hb := run_bounds (P := E.P) (cap := s.size) false hlo hhi hl hh h0 h1 h2
        refine Up.value (w' := w) ?_ (Res.same hr (.c _ rfl) h)
        simp [Instr.sliceAt, Instr.slice, run_underlying hu, hb]
      · exact h.elim
    · rename_i e es ht
      have hu := tk_slc ht
      cases hx with
      | ps es a cap b o us hc ha hw hv1 hv =>
      split at h
      · rename_i hh' hh
        obtain ⟨h0, h1, h2, hnz, hsz, h⟩ := h
        have hb := run_bounds (P := E.P) (cap := cap) true hlo hhi hl hh h0 h1 (by omega)
        have hs := run_tsz hnz w
        have hlen : ((es.take hh'.toNat).drop l.toNat).length = hh'.toNat - l.toNat := by simp; omega
        refine Up.value (v := .slice (if cap = l.toNat then a else a.map (·.add (l.toNat * tsz E.P e))) (hh'.toNat - l.toNat) (cap - l.toNat)) (w' := w) ?_ (Res.same hr ?_ h)
        · simp [Instr.sliceAt, Instr.slice, run_underlying hu, hb, hs]
        · rw [← hlen]
          refine .ps _ _ _ b (o + l.toNat * tsz E.P e) (fun k j => us (l.toNat + k) j) (by rw [hlen]; omega) ?_ ?_ ?_ ?_
          · intro hne
            have hes : es ≠ [] := by intro e0; subst e0; simp at hne
            obtain ⟨rfl, a3⟩ := ha hes
            refine ⟨?_, a3⟩
            have : cap ≠ l.toNat := by
              intro e0
              have : ((es.take hh'.toNat).drop l.toNat).length = 0 := by rw [hlen]; omega
              exact hne (List.eq_nil_of_length_eq_zero this)
            rw [if_neg this]
            simp [addr_add]
          · intro k y j z hk hj
            rw [List.getElem?_drop, List.getElem?_take] at hk
            split at hk
            · have := hw _ y j z hk hj
              rw [hsz y (List.mem_of_getElem? hk)] at this ⊢
              rwa [Nat.add_mul, ← Nat.add_assoc] at this
            · cases hk
          · intro k y j z hk hj
            rw [List.getElem?_drop, List.getElem?_take] at hk
            split at hk
            · exact hv1 _ y j z hk hj
            · cases hk
          · intro k y j z hk hj
            rw [List.getElem?_drop, List.getElem?_take] at hk
            split at hk
            · exact hv _ y j z hk hj
            · cases hk
      · exact h.elim
    · rename_i e ii gg off len ht
      have hu := tk_slc ht
      obtain ⟨a, cap, rfl, hin, hlc, hat⟩ := hx.rs_inv
      split at h
      · rename_i hh' hh
        split at h
        · rename_i T g' es hget
          obtain ⟨rfl, hsz, h0, h1, h2, hnz, h⟩ := h
          have hs := run_tsz hnz w
          obtain ⟨l', hl', ho, _⟩ := hr.loc hget
          simp only [ObjRel] at ho
          have hhc : hh' ≤ (cap : Int) := by
            rcases h2 with h2 | h2
            · omega
            · have hat' := (hat l' hl').2 ho.1
              unfold Loc.rsAt at hat'
              cases hb' : l'.blk with
              | none =>
                simp only [hb'] at hat' ho
                have := ho.2.2.2.2.2.1
                subst this
                simp at h2
                omega
              | some b =>
                simp only [hb'] at hat'
                have := ho.2.2.2.1
                omega
          have hb := run_bounds (P := E.P) (cap := cap) true hlo hhi hl hh h0 h1 hhc
          have hlsz : l'.sz = tsz E.P e := by rw [ho.2.1, hsz]; rfl
          refine Up.value (v := .slice (if cap = l.toNat then a else a.map (·.add (l.toNat * tsz E.P e))) (hh'.toNat - l.toNat) (cap - l.toNat)) (w' := w) ?_ (Res.same hr ?_ h)
          · simp [Instr.sliceAt, Instr.slice, run_underlying hu, hb, hs]
          · refine .rs ii gg _ _ _ _ hin (by omega) ?_
            intro l2 hl2
            rw [hl'] at hl2; cases hl2
            refine ⟨(hat l' hl').1, fun e0 => ?_⟩
            have hat' := (hat l' hl').2 e0
            unfold Loc.rsAt at hat' ⊢
            cases hb' : l'.blk with
            | none => simp only [hb'] at hat' ⊢; omega
            | some b =>
              simp only [hb'] at hat' ⊢
              obtain ⟨a1, a2, a3⟩ := hat'
              refine ⟨by omega, ?_, ?_⟩
              · by_cases hc0 : cap = l.toNat
                · left; omega
                · right
                  rw [if_neg hc0]
                  have : cap ≠ 0 := by omega
                  rcases a2 with a2 | a2
                  · omega
                  · rw [a2]; simp only [Option.map_some, addr_add, hlsz]; rw [← Nat.add_mul]
              · intro e1
                have hoff : off = 0 := by omega
                have hl0 : l.toNat = 0 := by omega
                rw [hl0, a3 hoff]
                simp [addr_add]
        · exact h.elim
      · exact h.elim
    · rename_i e ii gg off len cap0 ht
      have hu := tk_slc ht
      obtain ⟨a, rfl, hin, hlc, hat⟩ : ∃ a, xv = .slice a len cap0 ∧ ii < Γ.next ∧ len ≤ cap0 ∧ ∀ l, Γ.get ii = some l → gg ≤ l.gen ∧ (l.gen = gg → l.rsAt off len a cap0) := by
        cases hx with
        | rc _ _ _ _ _ a h1 h2 h3 => exact ⟨a, rfl, h1, h2, h3⟩
      split at h
      · rename_i hh' hh
        split at h
        · rename_i T g' es hget
          obtain ⟨rfl, hsz, h0, h1, h2, hnz, h⟩ := h
          have hs := run_tsz hnz w
          obtain ⟨l', hl', ho, _⟩ := hr.loc hget
          simp only [ObjRel] at ho
          have hb := run_bounds (P := E.P) (cap := cap0) true hlo hhi hl hh h0 h1 h2
          have hlsz : l'.sz = tsz E.P e := by rw [ho.2.1, hsz]; rfl
          refine Up.value (v := .slice (if cap0 = l.toNat then a else a.map (·.add (l.toNat * tsz E.P e))) (hh'.toNat - l.toNat) (cap0 - l.toNat)) (w' := w) ?_ (Res.same hr ?_ h)
          · simp [Instr.sliceAt, Instr.slice, run_underlying hu, hb, hs]
          · refine .rc ii gg _ _ _ _ hin (by omega) ?_
            intro l2 hl2
            rw [hl'] at hl2; cases hl2
            refine ⟨(hat l' hl').1, fun e0 => ?_⟩
            have hat' := (hat l' hl').2 e0
            unfold Loc.rsAt at hat' ⊢
            cases hb' : l'.blk with
            | none => simp only [hb'] at hat' ⊢; omega
            | some b =>
              simp only [hb'] at hat' ⊢
              obtain ⟨a1, a2, a3⟩ := hat'
              refine ⟨by omega, ?_, ?_⟩
              · by_cases hc0 : cap0 = l.toNat
                · left; omega
                · right
                  rw [if_neg hc0]
                  have : cap0 ≠ 0 := by omega
                  rcases a2 with a2 | a2
                  · omega
                  · rw [a2]; simp only [Option.map_some, addr_add, hlsz]; rw [← Nat.add_mul]
              · intro e1
                have hoff : off = 0 := by omega
                have hl0 : l.toNat = 0 := by omega
                rw [hl0, a3 hoff]
                simp [addr_add]
        · exact h.elim
      · exact h.elim
    · rename_i e ht
      have hu := tk_slc ht
      cases hx with
      | nl a =>
      split at h
      · rename_i hh' hh
        obtain ⟨rfl, rfl, hnz, h⟩ := h
        have hb := run_bounds (P := E.P) (len := 0) (cap := 0) true hlo hhi hl hh (by omega) (by omega) (by omega)
        have hs := run_tsz hnz w
        refine Up.value (v := .slice a 0 0) (w' := w) ?_ (Res.same hr (.nl _) h)
        simp at hb
        simp [Instr.sliceAt, Instr.slice, run_underlying hu, hb, hs]
      · exact h.elim
    · exact h.elim

/-! ### Literals of slices -/
def aBuildSlice (E : Env) (own : Nat) (t : TypeId) (len : Nat) (parts : List (Nat × AV)) (σ : Store) (K : AV → Store → Prop) : Prop :=
  match tk E.P t with
  | .slc e => tsz E.P e ≠ 0 ∧ len * tsz E.P e ≤ 16777216 ∧ (azero E.P e).ok = true ∧ tsz E.P e = (azero E.P e).cells.length ∧ (∀ p ∈ parts, p.1 < len ∧ p.2.ok = true ∧ p.2.cells.length = tsz E.P e) ∧
      (if own = 1 then K (.rs σ.next 0 0 len) (σ.alloc (.arr e 0 (parts.foldl (fun es p => es.set p.1 p.2) (List.replicate len (azero E.P e)))))
       else if own = 2 then K (.lg σ.next (parts.foldl (fun es p => es.set p.1 p.2) (List.replicate len (azero E.P e)))) (σ.alloc (.log e len))
       else if len = 0 then K .nl σ else K (.ps (parts.foldl (fun es p => es.set p.1 p.2) (List.replicate len (azero E.P e)))) σ)
  | _ => False

theorem flat_set {sz : Nat} : ∀ (es : List AV) (k : Nat) (a : AV), (∀ e ∈ es, e.cells.length = sz) → k < es.length → a.cells.length = sz →
    flat (es.set k a) = (flat es).take (k * sz) ++ a.cells ++ (flat es).drop (k * sz + a.cells.length)
  | [], k, a, _, h, _ => by simp at h
  | e :: es, k, a, hs, hk, ha => by
    have he := hs e (by simp)
    cases k with
    | zero => simp [flat, ha, he]
    | succ k =>
      have ih := flat_set es k a (fun e he => hs e (by simp [he])) (by simpa using hk) ha
      unfold flat at ih ⊢
      rw [List.set_cons_succ, List.flatMap_cons, List.flatMap_cons, ih]
      have h1 : (k + 1) * sz = e.cells.length + k * sz := by rw [he, Nat.succ_mul]; omega
      rw [h1, List.take_append, List.take_of_length_le (show e.cells.length ≤ e.cells.length + k * sz by omega), Nat.add_sub_cancel_left]
      rw [List.drop_append (l₁ := e.cells), List.drop_of_length_le (show e.cells.length ≤ e.cells.length + k * sz + a.cells.length by omega), show e.cells.length + k * sz + a.cells.length - e.cells.length = k * sz + a.cells.length by omega]
      simp only [List.append_assoc, List.nil_append]

theorem fill_slice {Γ : Ctx} {w : World} {sz : Nat} : ∀ (parts : List (Nat × AV)) (vparts : List (Nat × Value)) (es : List AV) (us : Array Value), PartsRel Γ w parts vparts → CellsRel Γ w (flat es) us.toList → (∀ e ∈ es, e.cells.length = sz) →
    (∀ p ∈ parts, p.1 < es.length ∧ p.2.ok = true ∧ p.2.cells.length = sz) →
    ∃ us', Instr.fill (fun i => some (i * sz, sz)) us vparts = some us' ∧ CellsRel Γ w (flat (parts.foldl (fun es p => es.set p.1 p.2) es)) us'.toList ∧ (∀ e ∈ parts.foldl (fun es p => es.set p.1 p.2) es, e.cells.length = sz) ∧
      (parts.foldl (fun es p => es.set p.1 p.2) es).length = es.length
  | [], [], es, us, _, hc, hs, _ => ⟨us, rfl, hc, hs, rfl⟩
  | (i, a) :: parts, (j, v) :: vparts, es, us, hp, hc, hs, hcond => by
    obtain ⟨rfl, hv, hp⟩ := hp
    obtain ⟨c1, c2, c3⟩ := hcond (i, a) (by simp)
    simp only at c1 c2 c3
    obtain ⟨d1, d2, d3⟩ := hv.cells c2
    have hus : us.size = es.length * sz := by have := hc.1; rw [flat_length hs] at this; simpa using this
    have hle : i * sz + sz ≤ us.size := by rw [hus, ← Nat.succ_mul]; exact Nat.mul_le_mul_right _ c1
    have hfold : v.cells.zipIdx.foldl (fun cs (x : Value × Nat) => cs.setIfInBounds (i * sz + x.2) x.1) us = (us.toList.take (i * sz) ++ v.cells.toList ++ us.toList.drop (i * sz + v.cells.size)).toArray := by
      have := foldl_set v.cells.toList (i * sz) 0 us (by simp; omega)
      simp only [Nat.add_zero, Array.length_toList] at this
      rw [← this, ← Array.foldl_toList]
      congr 1
      simp
    have hset : ∀ e ∈ es.set i a, e.cells.length = sz := fun e he => by
      rcases List.mem_or_eq_of_mem_set he with h | rfl
      · exact hs e h
      · exact c3
    obtain ⟨us', u1, u2, u3, u4⟩ := fill_slice parts vparts (es.set i a) (us.toList.take (i * sz) ++ v.cells.toList ++ us.toList.drop (i * sz + v.cells.size)).toArray hp
      (by
        rw [flat_set es i a hs c1 c3]
        have := ((hc.take (i * sz)).append (hv.cellsRel c2)).append (hc.drop (i * sz + a.cells.length))
        rw [d1] at this ⊢
        simpa using this) hset (fun p hp' => by have := hcond p (by simp [hp']); simpa using this)
    refine ⟨us', ?_, u2, u3, by simpa using u4⟩
    simp only [Instr.fill]
    rw [if_neg (by simp; omega), hfold]
    exact u1
  | [], _ :: _, _, _, hp, _, _, _ => hp.elim
  | _ :: _, [], _, _, hp, _, _, _ => hp.elim

/-- The zero cells of a row. -/
theorem zero_cells {Γ : Ctx} {w : World} {z : Value} {za : AV} {sz n : Nat} (hz : VR Γ w za z) (hok : za.ok = true) (hsz : sz = za.cells.length) (hnz : sz ≠ 0) :
    CellsRel Γ w (flat (List.replicate n za)) ((Array.range (n * sz)).map (z.cells[· % z.cells.size]!)).toList := by
  obtain ⟨h1, h2, h3⟩ := hz.cells hok
  have hzs : z.cells.size = sz := by omega
  have hfl : ∀ m x, (flat (List.replicate n za))[m]? = some x → m < n * sz ∧ za.cells[m % sz]? = some x := by
    intro m x hx
    have hm := (List.getElem?_eq_some_iff.1 hx).1
    rw [flat_length (sz := sz) (fun e he => by rw [(List.mem_replicate.1 he).2, hsz]), List.length_replicate] at hm
    have hdiv : m / sz < n := Nat.div_lt_of_lt_mul (by rwa [Nat.mul_comm] at hm)
    have hmod : m % sz < sz := Nat.mod_lt _ (by omega)
    have hy : za.cells[m % sz]? = some (za.cells[m % sz]'(by omega)) := List.getElem?_eq_getElem _
    have := flat_get (sz := sz) (es := List.replicate n za) (k := m / sz) (e := za) (fun e he => by rw [(List.mem_replicate.1 he).2, hsz]) (by rw [List.getElem?_replicate, if_pos hdiv]) hy
    rw [Nat.mul_comm, Nat.div_add_mod] at this
    rw [this] at hx; cases hx
    exact ⟨hm, hy⟩
  refine ⟨?_, ?_, ?_⟩
  · rw [flat_length (sz := sz) (fun e he => by rw [(List.mem_replicate.1 he).2, hsz])]; simp
  · intro u hu
    simp only [Array.toList_map, List.mem_map] at hu
    obtain ⟨m, _, rfl⟩ := hu
    have hmod : m % z.cells.size < z.cells.size := Nat.mod_lt _ (by omega)
    have : z.cells[m % z.cells.size]! = z.cells[m % z.cells.size] := by simp [hmod]
    rw [this]
    exact h2 _ (Array.getElem_mem _)
  · intro m x u hx hu
    obtain ⟨hm, hy⟩ := hfl m x hx
    have hmod : m % z.cells.size < z.cells.size := Nat.mod_lt _ (by omega)
    have hu' : u = z.cells[m % z.cells.size] := by
      simp [hm] at hu
      rw [← hu]; simp [hmod]
    rw [hu']
    rw [← hzs] at hy
    exact h3 _ x _ hy (Array.getElem?_eq_getElem hmod)

theorem rowRel_of_cells {Γ : Ctx} {w : World} {sz : Nat} {es : List AV} {xs : Array Value} (hs : ∀ e ∈ es, e.cells.length = sz) (hc : CellsRel Γ w (flat es) xs.toList) : RowRel Γ w sz es xs := by
  refine ⟨hs, fun k e j x hk hj => ?_⟩
  have hf := flat_get hs hk hj
  have hlt : k * sz + j < xs.toList.length := by rw [hc.1]; exact (List.getElem?_eq_some_iff.1 hf).1
  have hu := List.getElem?_eq_getElem hlt
  exact ⟨xs.toList[k * sz + j], by rw [← Array.getElem?_toList]; exact hu, hc.2.1 _ (List.mem_of_getElem? hu), hc.2.2 _ _ _ hf hu⟩

theorem aBuildSlice_ok {E : Env} {Γ : Ctx} {σ : Store} {w : World} {own : Nat} {t : TypeId} {len : Nat} {parts : List (Nat × AV)} {vparts : Array (Nat × Value)} {K : AV → Store → Prop} (hr : R E Γ σ w) (hp : PartsRel Γ w parts vparts.toList)
    (h : aBuildSlice E own t len parts σ K) : Up E Γ w K ((do pure (.value (← Instr.buildSlice t len vparts)) : Sem Next).run E.P w) := by
  unfold aBuildSlice at h
  split at h
  · rename_i e ht
    have hu := tk_slc ht
    obtain ⟨hnz, hle, hok, hsz, hcond, h⟩ := h
    have hs := run_tsz hnz w
    obtain ⟨z, hz1, hz2⟩ := run_azero (Γ := Γ) (w := w) hok
    obtain ⟨us', u1, u2, u3, u4⟩ := fill_slice (sz := tsz E.P e) parts vparts.toList (List.replicate len (azero E.P e)) _ hp (zero_cells (n := len) hz2 hok hsz hnz) (fun e he => by rw [(List.mem_replicate.1 he).2, hsz]) (by simpa using hcond)
    have hrun : (Instr.buildSlice t len vparts).run E.P w = .ok (.slice (some ⟨w.heap.size, 0, none⟩) len len) { w with heap := w.heap.push (.cells us' e) } := by
      have hle' : ¬ (16777216 < len * tsz E.P e) := by omega
      by_cases h0 : len = 0
      · subst h0
        have hp0 : parts = [] := by
          cases parts with
          | nil => rfl
          | cons p ps => have := (hcond p (by simp)).1; omega
        subst hp0
        have hv0 : vparts.toList = [] := by
          cases hv : vparts.toList with
          | nil => rfl
          | cons p ps => rw [hv] at hp; exact hp.elim
        have hr0 : Array.range 0 = #[] := rfl
        rw [hv0] at u1
        simp [Instr.fill, hr0] at u1
        simp [Instr.buildSlice, run_underlying hu, hs, hv0, Instr.fill, newRow, ← u1, hr0]
      · have hnz' : len * tsz E.P e ≠ 0 := Nat.mul_ne_zero h0 hnz
        simp [Instr.buildSlice, run_underlying hu, hs, hle', h0, hnz, hnz', hz1, u1, newRow]
    have hlen : (parts.foldl (fun es p => es.set p.1 p.2) (List.replicate len (azero E.P e))).length = len := by rw [u4]; simp
    refine Up.value hrun ?_
    split at h
    · have := new_owned (K := K) (e := e) (cap := len) (fr := (0, 0)) hr (rowRel_of_cells u3 u2) (by omega) (by simp only [maxLen]; have : len * 1 ≤ len * tsz E.P e := Nat.mul_le_mul_left _ (by omega); omega)
        (by have := u2.1; rw [flat_length u3, hlen] at this; simpa using this) (.inl rfl) (grown_push w (.cells us' e)) (heap_push_new w _) (by rw [hlen]; exact h)
      rwa [hlen] at this
    · split at h
      · have := new_log (K := K) (e := e) (c := len) (fr := (0, 0)) hr (grown_push w (.cells us' e)) (heap_push_new w _) (.inl rfl) (rowRel_of_cells u3 u2).1 (rowRel_of_cells u3 u2).2
          (by have := u2.1; rw [flat_length u3, hlen] at this; simpa using this) (by omega) (by simp only [maxLen]; have : len * 1 ≤ len * tsz E.P e := Nat.mul_le_mul_left _ (by omega); omega) (by rw [hlen]; exact h)
        rwa [hlen] at this
      split at h
      · rename_i h0
        have := new_sealed (K := fun _ σ' => σ' = σ) (e := e) (cap := len) (fr := (0, 0)) hr (rowRel_of_cells u3 u2) (by omega) (grown_push w (.cells us' e)) (heap_push_new w _) rfl
        rw [hlen] at this
        obtain ⟨Γ', a, σ', k1, k2, k3, rfl⟩ := this
        refine ⟨Γ', .nl, σ', k1, k2, ?_, h⟩
        rw [h0]; exact .nl _
      · have := new_sealed (K := K) (e := e) (cap := len) (fr := (0, 0)) hr (rowRel_of_cells u3 u2) (by omega) (grown_push w (.cells us' e)) (heap_push_new w _) h
        rwa [hlen] at this
  · exact h.elim

/-- A literal of bytes that is converted to its own type next. -/
def aBuildLit (E : Env) (t : TypeId) (len : Nat) (parts : List (Nat × AV)) (K : AV → Prop) : Prop :=
  match tk E.P t with
  | .slc e => tsz E.P e ≠ 0 ∧ len * tsz E.P e ≤ 16777216 ∧ (azero E.P e).ok = true ∧ tsz E.P e = (azero E.P e).cells.length ∧ (∀ p ∈ parts, p.1 < len ∧ p.2.ok = true ∧ p.2.cells.length = tsz E.P e) ∧
      tk E.P e = .int .u8 ∧ ∃ l : List UInt8, parts.foldl (fun es p => es.set p.1 p.2) (List.replicate len (azero E.P e)) = l.map byteV ∧ K (.fs l)
  | _ => False

theorem aBuildLit_ok {E : Env} {Γ : Ctx} {σ : Store} {w : World} {t : TypeId} {len : Nat} {parts : List (Nat × AV)} {vparts : Array (Nat × Value)} {K : AV → Store → Prop} (hr : R E Γ σ w) (hp : PartsRel Γ w parts vparts.toList)
    (h : aBuildLit E t len parts fun a => K a σ) : Up E Γ w K ((do pure (.value (← Instr.buildSlice t len vparts)) : Sem Next).run E.P w) := by
  unfold aBuildLit at h
  split at h
  · rename_i e ht
    obtain ⟨hnz, hle, hok, hsz, hcond, he, l, hl, h⟩ := h
    have hu := tk_slc ht
    have hs := run_tsz hnz w
    obtain ⟨z, hz1, hz2⟩ := run_azero (Γ := Γ) (w := w) hok
    obtain ⟨us', u1, u2, u3, u4⟩ := fill_slice (sz := tsz E.P e) parts vparts.toList (List.replicate len (azero E.P e)) _ hp (zero_cells (n := len) hz2 hok hsz hnz) (fun e he => by rw [(List.mem_replicate.1 he).2, hsz]) (by simpa using hcond)
    have hrun : (Instr.buildSlice t len vparts).run E.P w = .ok (.slice (some ⟨w.heap.size, 0, none⟩) len len) { w with heap := w.heap.push (.cells us' e) } := by
      have hle' : ¬ (16777216 < len * tsz E.P e) := by omega
      by_cases h0 : len = 0
      · subst h0
        have hp0 : parts = [] := by
          cases parts with
          | nil => rfl
          | cons p ps => have := (hcond p (by simp)).1; omega
        subst hp0
        have hv0 : vparts.toList = [] := by
          cases hv : vparts.toList with
          | nil => rfl
          | cons p ps => rw [hv] at hp; exact hp.elim
        have hr0 : Array.range 0 = #[] := rfl
        rw [hv0] at u1
        simp [Instr.fill, hr0] at u1
        simp [Instr.buildSlice, run_underlying hu, hs, hv0, Instr.fill, newRow, ← u1, hr0]
      · have hnz' : len * tsz E.P e ≠ 0 := Nat.mul_ne_zero h0 hnz
        simp [Instr.buildSlice, run_underlying hu, hs, hle', h0, hnz, hnz', hz1, u1, newRow]
    have hlen : (parts.foldl (fun es p => es.set p.1 p.2) (List.replicate len (azero E.P e))).length = len := by rw [u4]; simp
    obtain ⟨hx, hR⟩ := hr.same_ctx (grown_push w (.cells us' e))
    have hll : l.length = len := by rw [hl] at hlen; simpa using hlen
    have hflat : ∀ m : List UInt8, flat (m.map byteV) = m.map byteV := by
      intro m
      induction m with
      | nil => rfl
      | cons y m ih => unfold flat at ih ⊢; rw [List.map_cons, List.flatMap_cons, ih]; rfl
    rw [hl, hflat] at u2
    refine Up.value hrun ⟨Γ, .fs l, σ, hx, hR, ?_, h⟩
    rw [← hll]
    refine .fs l w.heap.size l.length ⟨fun ho => absurd (hr.blk_lt ho) (Nat.lt_irrefl _), by simp, hr.base⟩ (Nat.le_refl _) ⟨us', e, (0, 0), by simp, fun k x hk => ?_⟩
    have hk1 : (l.map byteV)[k]? = some (byteV x) := by rw [List.getElem?_map, hk]; rfl
    have hlt : k < us'.toList.length := by have h8 := (List.getElem?_eq_some_iff.1 hk1).1; have h9 := u2.1; omega
    have hv := u2.2.2 k _ _ hk1 (List.getElem?_eq_getElem hlt)
    have hu' : us'[k]? = some us'.toList[k] := by rw [← Array.getElem?_toList]; exact List.getElem?_eq_getElem hlt
    rw [hu']
    generalize us'.toList[k] = v at hv
    cases hv
    rfl
  · exact h.elim

/-! ### make -/
def aMakeSlice (E : Env) (t : TypeId) (l c : AV) (σ : Store) (K : AV → Store → Prop) : Prop :=
  match tk E.P t, l, c with
  | .slc e, .c (.int _ l), .c (.int _ c) => tsz E.P e ≠ 0 ∧ (azero E.P e).ok = true ∧ tsz E.P e = (azero E.P e).cells.length ∧ 0 ≤ l ∧ l ≤ c ∧ (tby E.P e : Int) * c ≤ 281474976710656 ∧ c ≤ 9223372036854775807 ∧
      K (.rs σ.next 0 0 l.toNat) (σ.alloc (.arr e 0 (List.replicate l.toNat (azero E.P e))))
  | _, _, _ => False

theorem aMakeSlice_ok {E : Env} {Γ : Ctx} {σ : Store} {w : World} {t : TypeId} {l c : AV} {lv cv : Value} {K : AV → Store → Prop} (hr : R E Γ σ w) (hl : VR Γ w l lv) (hc : VR Γ w c cv) (h : aMakeSlice E t l c σ K) :
    Up E Γ w K ((do pure (.value (← Instr.makeSlice t lv cv)) : Sem Next).run E.P w) := by
  unfold aMakeSlice at h
  split at h
  · rename_i e kl l kc c ht
    have hu := tk_slc ht
    cases hl; cases hc
    obtain ⟨hnz, hok, hsz, h0, h1, hb, h63, h⟩ := h
    obtain ⟨i, hi, hsize⟩ : ∃ i, E.P.info? e = some i ∧ i.size = tsz E.P e := by
      unfold tsz cellsOf' at *
      cases hi : E.P.info? e with
      | none => simp [hi] at hnz
      | some i => exact ⟨i, rfl, by simp⟩
    have hby : tby E.P e = i.bytes := by simp [tby, hi]
    obtain ⟨z, hz, hzv⟩ : ∃ z, i.zero = some z ∧ VR Γ w (azero E.P e) z := by
      unfold azero tzero at *
      cases hzz : i.zero with
      | none => simp [hi, hzz, AV.ok] at hok
      | some z => exact ⟨z, rfl, by simpa [hi, hzz] using VR.ofV Γ w z⟩
    have hrun := run_make (P := E.P) w t e i z hu hi hz kl kc l c h0 h1 (by rw [← hby]; exact hb) h63
    refine Up.value hrun ?_
    have hcz := zero_cells (n := c.toNat) hzv hok hsz hnz
    have hlen : (List.replicate l.toNat (azero E.P e)).length = l.toNat := by simp
    have hrow : RowRel Γ w (tsz E.P e) (List.replicate l.toNat (azero E.P e)) (madeCells z.cells (c.toNat * i.size)) := by
      have hr' := rowRel_of_cells (sz := tsz E.P e) (fun e he => by rw [(List.mem_replicate.1 he).2, hsz]) hcz
      refine ⟨fun e he => by rw [(List.mem_replicate.1 he).2, hsz], fun k y j x hk hj => ?_⟩
      rw [hsize]
      rw [List.getElem?_replicate] at hk
      split at hk
      · exact hr'.2 k y j x (by rw [List.getElem?_replicate, if_pos (by omega)]; exact hk) hj
      · cases hk
    have := new_owned (K := K) (e := e) (cap := c.toNat) (fr := (0, 0)) hr hrow (by rw [hlen]; omega) (by simp only [maxLen]; omega) (by rw [size_madeCells, hsize]) (.inl rfl)
      (w' := w.alloc (.cells (madeCells z.cells (c.toNat * i.size)) e)) (grown_push w _) (heap_push_new w _) (by rw [hlen]; exact h)
    rwa [hlen] at this
  · exact h.elim
end Go.AW
end

section
set_option linter.unusedVariables false
set_option linter.unusedSimpArgs false
set_option linter.unnecessarySimpa false
namespace Go.AW
open Go

theorem splice_get2 {α : Type} (l vs : List α) (A m : Nat) (h : A ≤ l.length) :
    (l.take A ++ vs ++ l.drop (A + vs.length))[m]? = if m < A then l[m]? else if m < A + vs.length then vs[m - A]? else l[m]? := by
  have hA : (l.take A).length = A := by rw [List.length_take]; omega
  by_cases h1 : m < A
  · rw [if_pos h1, List.append_assoc, List.getElem?_append_left (by omega), List.getElem?_take, if_pos h1]
  · rw [if_neg h1]
    by_cases h2 : m < A + vs.length
    · rw [if_pos h2, List.append_assoc, List.getElem?_append_right (by omega), hA, List.getElem?_append_left (by omega)]
    · rw [if_neg h2, List.getElem?_append_right (by simp; omega), List.getElem?_drop]
      congr 1
      simp
      omega

/-- Elements are written into a row of the store. -/
theorem write_row {E : Env} {Γ : Ctx} {σ : Store} {w : World} {i g off : Nat} {T : TypeId} {es news : List AV} {l : Loc} {b : Nat} {us : List Value} {xs : Array Value} {fr : Nat × Nat} (hr : R E Γ σ w) (hi : σ.get i = some (.arr T g es)) (hl : Γ.get i = some l) (hb : l.blk = some b)
    (hq : w.heap[b]? = some (.cells xs T fr)) (hc : CellsRel Γ w (flat news) us) (hns : ∀ e ∈ news, e.cells.length = l.sz) (hoff : off ≤ es.length) (hcap : off + news.length ≤ l.cap) :
    (storeCells ⟨b, off * l.sz, none⟩ us).run E.P w = .ok () (w.setRow b (xs.toList.take (off * l.sz) ++ us ++ xs.toList.drop (off * l.sz + us.length)).toArray) ∧
    ExtN Γ.next Γ w (Γ.set i l) (w.setRow b (xs.toList.take (off * l.sz) ++ us ++ xs.toList.drop (off * l.sz + us.length)).toArray) ∧
    R E (Γ.set i l) (σ.set i (.arr T g (es.take off ++ news ++ es.drop (off + news.length)))) (w.setRow b (xs.toList.take (off * l.sz) ++ us ++ xs.toList.drop (off * l.sz + us.length)).toArray) := by
  obtain ⟨l', hl', ho, hlt⟩ := hr.loc hi
  have hll : l' = l := by rw [hl] at hl'; exact (Option.some.inj hl').symm
  subst hll
  simp only [ObjRel, hb] at ho
  obtain ⟨o1, o2, o3, o4, o5, xs', fr', q1, q2, q3, q4⟩ := ho
  rw [hq] at q1
  cases q1
  have husl : us.length = news.length * l'.sz := by rw [hc.1, flat_length hns]
  have hfit : off * l'.sz + us.length ≤ xs.size := by
    rw [husl, q3, ← Nat.add_mul]; exact Nat.mul_le_mul_right _ hcap
  have hst := run_storeCells_free E.P b (off * l'.sz) T fr us 0 xs w hq (q2.imp id And.left) (by omega) hc.2.1
  simp only [Nat.add_zero] at hst
  refine ⟨hst, ?_⟩
  have hg : w.grownBy (w.setRow b (xs.toList.take (off * l'.sz) ++ us ++ xs.toList.drop (off * l'.sz + us.length)).toArray) l'.blk :=
    ⟨rfl, rfl, rfl, by simp, fun j _ hj => setRow_other w b j _ (fun e => hj (by rw [hb, e]))⟩
  refine hr.upd hi hl hg (.inl rfl) (.inl rfl) (fun b m _ hm => by rw [hr.lims _ _ _ hi hl] at hm; cases hm) ((hr.lims _ _ _ hi hl).trans rfl) fun hx => ?_
  simp only [ObjRel, hb]
  have hall : ∀ e ∈ es.take off ++ news ++ es.drop (off + news.length), e.cells.length = l'.sz := by
    intro e he
    rcases List.mem_append.1 he with he | he
    · rcases List.mem_append.1 he with he | he
      · exact o3 e (List.mem_of_mem_take he)
      · exact hns e he
    · exact o3 e (List.mem_of_mem_drop he)
  refine ⟨o1, o2, hall, by simp; omega, o5, _, fr, setRow_heap w b xs _ T fr hq, ?_, ?_, ?_⟩
  · rcases q2 with q2 | q2
    · exact .inl q2
    · right; refine ⟨?_, q2.2⟩; have := q2.1; simp; omega
  · simp; omega
  · intro k y j x hk hj
    have hyl : y.cells.length = l'.sz := hall y (List.mem_of_getElem? hk)
    have hjl : j < l'.sz := by rw [← hyl]; exact (List.getElem?_eq_some_iff.1 hj).1
    simp only [List.getElem?_toArray]
    rw [splice_get xs.toList us (off * l'.sz) (k * l'.sz + j) (by simpa using hfit)]
    rw [splice_get2 es news off k hoff] at hk
    by_cases h1 : k < off
    · rw [if_pos h1] at hk
      have : (k + 1) * l'.sz ≤ off * l'.sz := Nat.mul_le_mul_right _ h1
      rw [Nat.succ_mul] at this
      rw [if_pos (by omega)]
      obtain ⟨v, v1, v2, v3⟩ := q4 k y j x hk hj
      exact ⟨v, by simpa using v1, v2, v3.ext hx⟩
    · rw [if_neg h1] at hk
      have e1 : k * l'.sz = off * l'.sz + (k - off) * l'.sz := by rw [← Nat.add_mul]; congr 1; omega
      by_cases h2 : k < off + news.length
      · rw [if_pos h2] at hk
        have hf := flat_get hns hk hj
        have hfl := (List.getElem?_eq_some_iff.1 hf).1
        rw [flat_length hns] at hfl
        rw [if_neg (by rw [e1]; omega), if_pos (by rw [e1, husl]; omega)]
        have e2 : k * l'.sz + j - off * l'.sz = (k - off) * l'.sz + j := by rw [e1]; omega
        rw [e2]
        have hul : (k - off) * l'.sz + j < us.length := by rw [husl]; exact hfl
        have hu := List.getElem?_eq_getElem hul
        exact ⟨_, hu, hc.2.1 _ (List.mem_of_getElem? hu), (hc.2.2 _ _ _ hf hu).ext hx⟩
      · rw [if_neg h2] at hk
        have : (off + news.length) * l'.sz ≤ k * l'.sz := Nat.mul_le_mul_right _ (by omega)
        rw [Nat.add_mul] at this
        rw [if_neg (by omega), if_neg (by rw [husl]; omega)]
        obtain ⟨v, v1, v2, v3⟩ := q4 k y j x hk hj
        exact ⟨v, by simpa using v1, v2, v3.ext hx⟩

/-- An object is written down as it is. -/
theorem R.set_same {E : Env} {Γ : Ctx} {σ : Store} {w : World} {i : Nat} {o : AObj} (hr : R E Γ σ w) (hi : σ.get i = some o) : R E Γ (σ.set i o) w := by
  have : σ.set i o = σ := by
    unfold Store.set
    cases σ with
    | mk get next =>
      simp only [Store.mk.injEq, and_true]
      funext j
      split
      · rename_i e; subst e; exact hi.symm
      · rfl
  rw [this]; exact hr

/-! ### What a slice's first elements are -/
def aSLen : AV → Option Nat
  | .ps es => some es.length
  | .nl => some 0
  | .rs _ _ _ len => some len
  | .rc _ _ _ len _ => some len
  | _ => none

def aFirst (σ : Store) (x : AV) (n : Nat) : Option (List AV) :=
  match x with
  | .ps es => some (es.take n)
  | .nl => some []
  | .rs i g off _ => aElems σ (.rs i g off n)
  | .rc i g off _ _ => aElems σ (.rs i g off n)
  | _ => none

theorem run_first {E : Env} {Γ : Ctx} {σ : Store} {w : World} {x : AV} {xv : Value} {es : List AV} {sz m n : Nat} (hr : R E Γ σ w) (hx : VR Γ w x xv) (hm : aSLen x = some m) (hn : n ≤ m) (h : aFirst σ x n = some es) (hs : ∀ e ∈ es, e.cells.length = sz) :
    es.length = n ∧ (∃ us : List Value, CellsRel Γ w (flat es) us ∧ ∀ w', w'.heap = w.heap → (Builtin.firstCells sz n xv).run E.P w' = .ok us.toArray w') ∧ ∀ w' : World, (Builtin.lenOf xv).run E.P w' = .ok m w' := by
  have hrow : ∀ (a : Option Addr) (len cap i g off : Nat), n ≤ len → len ≤ cap → i < Γ.next → (∀ l, Γ.get i = some l → g ≤ l.gen ∧ (l.gen = g → l.rsAt off len a cap)) → aElems σ (.rs i g off n) = some es →
      es.length = n ∧ (∃ us : List Value, CellsRel Γ w (flat es) us ∧ ∀ w', w'.heap = w.heap → (Builtin.firstCells sz n (.slice a len cap)).run E.P w' = .ok us.toArray w') := by
    intro a len cap i g off hnl hlc hi hat hel
    have hlen : es.length = n := by
      unfold aElems at hel
      simp only at hel
      split at hel
      · split at hel
        · cases hel; simp; omega
        · cases hel
      · cases hel
    have hv : VR Γ w (.rs i g off n) (.slice a n cap) := by
      refine .rs i g off n a cap hi (by omega) fun l hl => ⟨(hat l hl).1, fun e => ?_⟩
      have h2 := (hat l hl).2 e
      unfold Loc.rsAt at h2 ⊢
      split
      · rename_i hb; simp only [hb] at h2; exact ⟨h2.1, by omega, h2.2.2⟩
      · rename_i b hb; simp only [hb] at h2; exact h2
    obtain ⟨us, u1, u2⟩ := run_firstCells hr hv hel hs
    refine ⟨hlen, us, u1, fun w' hw' => ?_⟩
    have := u2 w' hw'
    rw [hlen] at this
    cases a <;> exact this
  unfold aSLen at hm
  split at hm
  · rename_i es0
    cases hm
    cases hx with
    | ps _ a cap b o us hc ha hw h1 hv =>
      simp only [aFirst, Option.some.injEq] at h
      subst h
      have hlen : (es0.take n).length = n := by simp; omega
      have hv' : VR Γ w (.ps (es0.take n)) (.slice a (es0.take n).length cap) := by
        refine .ps _ a cap b o us (by simp; omega) (fun hne => ha (by intro e; subst e; simp at hne)) ?_ ?_ ?_
        · intro k e j y hk hj
          rw [List.getElem?_take] at hk
          split at hk
          · exact hw k e j y hk hj
          · cases hk
        · intro k e j y hk hj
          rw [List.getElem?_take] at hk
          split at hk
          · exact h1 k e j y hk hj
          · cases hk
        · intro k e j y hk hj
          rw [List.getElem?_take] at hk
          split at hk
          · exact hv k e j y hk hj
          · cases hk
      obtain ⟨us', u1, u2⟩ := run_firstCells (es := es0.take n) hr hv' rfl hs
      refine ⟨hlen, ⟨us', u1, fun w' hw' => ?_⟩, fun w' => by simp [Builtin.lenOf]⟩
      have := u2 w' hw'
      rw [hlen] at this
      cases a <;> exact this
  · cases hm
    cases hx with
    | nl a =>
      simp only [aFirst, Option.some.injEq] at h
      subst h
      obtain rfl : n = 0 := by omega
      refine ⟨rfl, ⟨[], ⟨rfl, by simp, by simp [flat]⟩, fun w' _ => ?_⟩, fun w' => by simp [Builtin.lenOf]⟩
      cases a <;> simp [Builtin.firstCells, loadCells, loadCellsFrom]
  · rename_i i g off len
    cases hm
    cases hx with
    | rs _ _ _ _ a cap hi hl hat =>
      obtain ⟨k1, k2⟩ := hrow a _ cap i g off hn hl hi hat h
      exact ⟨k1, k2, fun w' => by simp [Builtin.lenOf]⟩
  · rename_i i g off len cap
    cases hm
    cases hx with
    | rc _ _ _ _ _ a hi hl hat =>
      obtain ⟨k1, k2⟩ := hrow a _ cap i g off hn hl hi hat h
      exact ⟨k1, k2, fun w' => by simp [Builtin.lenOf]⟩
  · cases hm

/-! ### A slice of the store that is written -/
def aOwn : AV → Option (Nat × Nat × Nat × Nat)
  | .rs i g off len => some (i, g, off, len)
  | .rc i g off len _ => some (i, g, off, len)
  | _ => none

theorem own_inv {Γ : Ctx} {w : World} {x : AV} {xv : Value} {i g off len : Nat} (hx : VR Γ w x xv) (h : aOwn x = some (i, g, off, len)) :
    ∃ a cap, xv = .slice a len cap ∧ i < Γ.next ∧ len ≤ cap ∧ ∀ l, Γ.get i = some l → g ≤ l.gen ∧ (l.gen = g → l.rsAt off len a cap) := by
  unfold aOwn at h
  split at h
  · cases h; exact hx.rs_inv
  · rename_i cap
    cases h
    cases hx with
    | rc _ _ _ _ _ a h1 h2 h3 => exact ⟨a, cap, rfl, h1, h2, h3⟩
  · cases h

def aCopy (E : Env) (t : TypeId) (dst src : AV) (σ : Store) (K : AV → Store → Prop) : Prop :=
  match tk E.P t, aOwn dst, aSLen src with
  | .slc e, some (i, g, off, len), some s => tsz E.P e ≠ 0 ∧ (match σ.get i, aFirst σ src (min s len) with
    | some (.arr T g' es), some news => g = g' ∧ tsz E.P e = tsz E.P T ∧ off ≤ es.length ∧ (∀ a ∈ news, a.cells.length = tsz E.P e) ∧
        K (.c (.int .i64 (min s len : Nat))) (σ.set i (.arr T g (es.take off ++ news ++ es.drop (off + news.length))))
    | _, _ => False)
  | _, _, _ => False

theorem aCopy_ok {E : Env} {Γ : Ctx} {σ : Store} {w : World} {t u ty : TypeId} {x y : AV} {xv yv : Value} {K : AV → Store → Prop} (hr : R E Γ σ w) (hx : VR Γ w x xv) (hy : VR Γ w y yv) (h : aCopy E t x y σ K) :
    ∃ v w', (Builtin.copy_ #[t, u] ty #[xv, yv]).run E.P w = .ok v w' ∧ Res E Γ w K v w' := by
  unfold aCopy at h
  split at h
  · rename_i e i g off len s ht how hs
    have hu := tk_slc ht
    obtain ⟨hnz, h⟩ := h
    split at h
    · rename_i T g' es news hget hfirst
      obtain ⟨rfl, hsz, hoff, hns, h⟩ := h
      obtain ⟨a, cap, rfl, hin, hlc, hat⟩ := own_inv hx how
      obtain ⟨l, hl, ho, hlt⟩ := hr.loc hget
      have ho' := ho
      simp only [ObjRel] at ho
      obtain ⟨o1, o2, o3, o4, o5, o6⟩ := ho
      have hlsz : l.sz = tsz E.P e := by rw [o2, hsz]; rfl
      obtain ⟨f1, ⟨us, f2, f3⟩, f4⟩ := run_first (n := min s len) hr hy hs (Nat.min_le_left _ _) hfirst hns
      have hsize := run_tsz hnz
      have hat' := (hat l hl).2 o1
      have hmin : Nat.min s len = min s len := rfl
      unfold Loc.rsAt at hat'
      cases hb : l.blk with
      | none =>
        simp only [hb] at hat' o6
        obtain ⟨rfl, hle0⟩ := o6
        have hn0 : news = [] := List.eq_nil_of_length_eq_zero (by rw [f1]; omega)
        subst hn0
        have hus : us = [] := List.eq_nil_of_length_eq_zero (by rw [f2.1]; rfl)
        subst hus
        have hoff0 : off = 0 := hat'.1
        subst hoff0
        refine ⟨.int .i64 (min s len : Nat), w, ?_, ?_⟩
        · have := f3 w rfl
          cases a <;> simp [Builtin.copy_, run_underlying hu, f4, hsize, hmin, this, goInt, storeCells]
        · refine ⟨Γ, _, _, ExtN.refl Γ w (Nat.le_refl _), hr.set_same (o := .arr T g ([].take 0 ++ [] ++ [].drop (0 + [].length))) (by simpa using hget), .c _ rfl, h⟩
      | some b =>
        simp only [hb] at hat' o6
        obtain ⟨a1, a2, a3⟩ := hat'
        obtain ⟨xs, fr, q1, q2, q3, q4⟩ := o6
        obtain ⟨w1, w2, w3⟩ := write_row hr hget hl hb q1 f2 (fun y hy => by rw [hlsz]; exact hns y hy) hoff (by rw [f1]; omega)
        by_cases hcap : cap = 0
        · have hn0 : news = [] := List.eq_nil_of_length_eq_zero (by rw [f1]; omega)
          subst hn0
          have hus : us = [] := List.eq_nil_of_length_eq_zero (by rw [f2.1]; rfl)
          subst hus
          refine ⟨.int .i64 (min s len : Nat), w, ?_, ?_⟩
          · have := f3 w rfl
            cases a <;> simp [Builtin.copy_, run_underlying hu, f4, hsize, hmin, this, goInt, storeCells]
          · refine ⟨Γ, _, _, ExtN.refl Γ w (Nat.le_refl _), hr.set_same (by simpa using hget), .c _ rfl, h⟩
        · have had : a = some ⟨b, off * l.sz, none⟩ := by rcases a2 with a2 | a2; exact absurd a2 hcap; exact a2
          subst had
          refine ⟨.int .i64 (min s len : Nat), _, ?_, ⟨_, _, _, w2, w3, .c _ rfl, h⟩⟩
          have := f3 w rfl
          simp [Builtin.copy_, run_underlying hu, f4, hsize, hmin, this, goInt, w1]
    · exact h.elim
  · exact h.elim

def aClear (E : Env) (t : TypeId) (x : AV) (σ : Store) (K : Store → Prop) : Prop :=
  match tk E.P t, aOwn x with
  | .slc e, some (i, g, off, len) => tsz E.P e ≠ 0 ∧ (azero E.P e).ok = true ∧ tsz E.P e = (azero E.P e).cells.length ∧ (match σ.get i with
    | some (.arr T g' es) => g = g' ∧ tsz E.P e = tsz E.P T ∧ off ≤ es.length ∧ K (σ.set i (.arr T g (es.take off ++ List.replicate len (azero E.P e) ++ es.drop (off + len))))
    | _ => False)
  | _, _ => False

theorem aClear_ok {E : Env} {Γ : Ctx} {σ : Store} {w : World} {t ty : TypeId} {x : AV} {xv : Value} {K : AV → Store → Prop} (hr : R E Γ σ w) (hx : VR Γ w x xv) (h : aClear E t x σ fun σ' => K (.tup []) σ') :
    ∃ v w', (Builtin.clear_ #[t] ty #[xv]).run E.P w = .ok v w' ∧ Res E Γ w K v w' := by
  unfold aClear at h
  split at h
  · rename_i e i g off len ht how
    have hu := tk_slc ht
    obtain ⟨hnz, hok, hzs, h⟩ := h
    split at h
    · rename_i T g' es hget
      obtain ⟨rfl, hsz, hoff, h⟩ := h
      obtain ⟨a, cap, rfl, hin, hlc, hat⟩ := own_inv hx how
      obtain ⟨l, hl, ho, hlt⟩ := hr.loc hget
      simp only [ObjRel] at ho
      obtain ⟨o1, o2, o3, o4, o5, o6⟩ := ho
      have hlsz : l.sz = tsz E.P e := by rw [o2, hsz]; rfl
      have hat' := (hat l hl).2 o1
      have hzero : len = 0 → ∃ v w', (Builtin.clear_ #[t] ty #[.slice a len cap]).run E.P w = .ok v w' ∧ Res E Γ w K v w' := by
        rintro rfl
        refine ⟨.tuple #[], w, ?_, ⟨Γ, _, _, ExtN.refl Γ w (Nat.le_refl _), hr.set_same (o := .arr T g (es.take off ++ List.replicate 0 (azero E.P e) ++ es.drop (off + 0))) (by simpa using hget), VR.undef_ _ _, h⟩⟩
        cases a <;> simp [Builtin.clear_, run_underlying hu]
      by_cases hl0 : len = 0
      · exact hzero hl0
      unfold Loc.rsAt at hat'
      cases hb : l.blk with
      | none => simp only [hb] at hat'; omega
      | some b =>
        simp only [hb] at hat' o6
        obtain ⟨a1, a2, a3⟩ := hat'
        obtain ⟨xs, fr, q1, q2, q3, q4⟩ := o6
        have had : a = some ⟨b, off * l.sz, none⟩ := by rcases a2 with a2 | a2; omega; exact a2
        subst had
        obtain ⟨z, hz1, hz2⟩ := run_azero (Γ := Γ) (w := w) hok
        have hzc := zero_cells (n := len) hz2 hok hzs hnz
        have hzsz : z.cells.size = tsz E.P e := by rw [hzs]; exact ((hz2.cells hok).1).symm
        obtain ⟨w1, w2, w3⟩ := write_row hr hget hl hb q1 hzc (fun y hy => by rw [(List.mem_replicate.1 hy).2, hlsz, hzs]) hoff (by simp; omega)
        refine ⟨.tuple #[], _, ?_, ⟨_, _, _, w2, w3, VR.undef_ _ _, by simpa using h⟩⟩
        obtain ⟨m, rfl⟩ : ∃ m, len = m + 1 := ⟨len - 1, by omega⟩
        have hzr : Builtin.zeroCells z.cells (m + 1) = (Array.range ((m + 1) * tsz E.P e)).map (z.cells[· % z.cells.size]!) := by unfold Builtin.zeroCells; rw [hzsz]
        simp [Builtin.clear_, run_underlying hu, hz1, hzr]
        simp at w1
        rw [w1]
        rfl
    · exact h.elim
  · exact h.elim
end Go.AW
end

section
set_option linter.unusedVariables false
set_option linter.unusedSimpArgs false
set_option linter.unnecessarySimpa false
namespace Go.AW
open Go

/-- An append that finds room. -/
theorem run_append_room {P : Program} {w : World} {t u ty e : TypeId} {i : TypeInfo} {sz : Nat} (ht : P.underlying t = some (.slice e)) (hu : P.underlying u = some .string ∨ ∃ e', P.underlying u = some (.slice e'))
    (hi : P.info? e = some i) (hsize : i.size = sz) {b n cap m : Nat} {xv : Value} {news : List Value} {w' : World} (hlen : ∀ w' : World, (Builtin.lenOf xv).run P w' = .ok m w')
    (hnew : ∀ w' : World, w'.heap = w.heap → (Builtin.firstCells sz m xv).run P w' = .ok news.toArray w') (hroom : n + m ≤ cap) (hst : (storeCells ⟨b, n * sz, none⟩ news).run P w = .ok () w') :
    (Builtin.append_ #[t, u] ty #[.slice (some ⟨b, 0, none⟩) n cap, xv]).run P w = .ok (.slice (some ⟨b, 0, none⟩) (n + m) cap) w' := by
  have hn := hnew w rfl
  rcases hu with hu | ⟨e', hu⟩ <;> simp [Builtin.append_, run_underlying ht, run_underlying hu, sizeOf, typeInfo, hi, hsize, hlen, hroom, hn, addr_add, hst]

/-- 's' has 'len' elements and the row has known room behind them; or its capacity is known and too small. -/
def aAppendP (E : Env) (t u : TypeId) (i g off len : Nat) (T : TypeId) (es : List AV) (x : AV) (σ : Store) (K : AV → Store → Prop) : Prop :=
  (tk E.P u = .str ∨ ∃ e, tk E.P u = .slc e) ∧ match tk E.P t with
    | .slc e => tsz E.P e ≠ 0 ∧ T = e ∧ off = 0 ∧ (match aElems σ x with
      | some news => (∀ a ∈ news, a.cells.length = tsz E.P e) ∧ len + news.length ≤ es.length ∧ K (.rs i g 0 (len + news.length)) (σ.set i (.arr T g (es.take len ++ news ++ es.drop (len + news.length))))
      | none => False)
    | _ => False

def aAppendC (E : Env) (t u : TypeId) (i g off len cap : Nat) (T : TypeId) (es : List AV) (x : AV) (σ : Store) (K : AV → Store → Prop) : Prop :=
  (tk E.P u = .str ∨ ∃ e, tk E.P u = .slc e) ∧ match tk E.P t with
    | .slc e => tsz E.P e ≠ 0 ∧ (azero E.P e).ok = true ∧ tsz E.P e = (azero E.P e).cells.length ∧ tsz E.P e = tsz E.P T ∧ off + len ≤ es.length ∧ (match aElems σ x with
      | some news => (∀ a ∈ news, a.cells.length = tsz E.P e) ∧ cap < len + news.length ∧ (len + news.length) * tby E.P e ≤ 140737488355328 ∧ len + news.length ≤ maxLen ∧
          K (.rs σ.next 0 0 (len + news.length)) (σ.alloc (.arr e 0 ((es.drop off).take len ++ news)))
      | none => False)
    | _ => False

def aAppendM (E : Env) (t : TypeId) (i g off len cap : Nat) (T : TypeId) (es : List AV) (k : Int) (σ : Store) (K : AV → Store → Prop) : Prop :=
  match tk E.P t with
    | .slc e => tsz E.P e ≠ 0 ∧ (azero E.P e).ok = true ∧ tsz E.P e = (azero E.P e).cells.length ∧ tsz E.P e = tsz E.P T ∧ off + len ≤ es.length ∧ 0 < k ∧ cap < len + k ∧ (len + k.toNat) * tby E.P e ≤ 140737488355328 ∧ len + k ≤ maxLen ∧
          K (.rs σ.next 0 0 (len + k.toNat)) (σ.alloc (.arr e 0 ((es.drop off).take len ++ List.replicate k.toNat (azero E.P e))))
    | _ => False

theorem aAppendP_ok {E : Env} {Γ : Ctx} {σ : Store} {w : World} {t u ty : TypeId} {i g off len T : Nat} {es : List AV} {x : AV} {sv xv : Value} {K : AV → Store → Prop} (hr : R E Γ σ w) (hsv : VR Γ w (.rs i g off len) sv) (hxv : VR Γ w x xv)
    (hget : σ.get i = some (.arr T g es)) (h : aAppendP E t u i g off len T es x σ K) : ∃ v w', (Builtin.append_ #[t, u] ty #[sv, xv]).run E.P w = .ok v w' ∧ Res E Γ w K v w' := by
  obtain ⟨hu', h⟩ := h
  have hu : E.P.underlying u = some .string ∨ ∃ e', E.P.underlying u = some (.slice e') := by
    rcases hu' with hu' | ⟨e, hu'⟩
    · exact .inl (tk_str hu')
    · exact .inr ⟨e, tk_slc hu'⟩
  split at h
  · rename_i e ht'
    have ht := tk_slc ht'
    obtain ⟨hnz, rfl, rfl, h⟩ := h
    split at h
    · rename_i news hel
      obtain ⟨hns, hroom, h⟩ := h
      obtain ⟨inf, hi, hsize⟩ : ∃ inf, E.P.info? T = some inf ∧ inf.size = tsz E.P T := by
        unfold tsz cellsOf' at *
        cases hi : E.P.info? T with
        | none => simp [hi] at hnz
        | some inf => exact ⟨inf, rfl, by simp⟩
      have hlen := fun w' => run_lenOf (E := E) hxv hel w'
      obtain ⟨us, husc, hnew⟩ := run_firstCells hr hxv hel hns
      obtain ⟨a, cap, rfl, hin, hlc, hat⟩ := hsv.rs_inv
      obtain ⟨l, hl, ho, hlt⟩ := hr.loc hget
      simp only [ObjRel] at ho
      obtain ⟨o1, o2, o3, o4, o5, o6⟩ := ho
      have hlsz : l.sz = tsz E.P T := o2
      have hat' := (hat l hl).2 o1
      unfold Loc.rsAt at hat'
      cases hb : l.blk with
      | none =>
        simp only [hb] at hat' o6
        obtain ⟨rfl, hcap0⟩ := o6
        obtain ⟨_, rfl, rfl⟩ := hat'
        have hn0 : news = [] := List.eq_nil_of_length_eq_zero (by simpa using hroom)
        subst hn0
        have hus : us = [] := List.eq_nil_of_length_eq_zero (by rw [husc.1]; rfl)
        subst hus
        refine ⟨_, w, run_append_zero ht hu hi hsize (by simpa using hlen) (by simpa using hnew) (Nat.le_refl 0), ?_⟩
        exact ⟨Γ, _, _, ExtN.refl Γ w (Nat.le_refl _), hr.set_same (o := .arr T g ([].take 0 ++ [] ++ [].drop (0 + [].length))) (by simpa using hget), by simpa using hsv, h⟩
      | some b =>
        simp only [hb] at hat' o6
        obtain ⟨a1, a2, a3⟩ := hat'
        obtain ⟨xs, fr, q1, q2, q3, q4⟩ := o6
        have had := a3 trivial
        subst had
        obtain ⟨w1, w2, w3⟩ := write_row hr hget hl hb q1 husc (fun y hy => by rw [hlsz]; exact hns y hy) (off := len) (by omega) (by omega)
        rw [hlsz] at w1 w2 w3
        refine ⟨_, _, run_append_room (ty := ty) ht hu hi hsize hlen hnew (by omega) w1, ⟨_, _, _, w2, w3, ?_, h⟩⟩
        refine .rs i g 0 _ _ cap (by simpa [Ctx.set] using hin) (by omega) fun l2 hl2 => ?_
        simp [Ctx.set] at hl2
        subst hl2
        refine ⟨by omega, fun _ => ?_⟩
        unfold Loc.rsAt
        simp only [hb]
        exact ⟨a1, by simp, fun _ => trivial⟩
    · exact h.elim
  · exact h.elim

theorem rc_inv {Γ : Ctx} {w : World} {i g off len cap : Nat} {v : Value} (h : VR Γ w (.rc i g off len cap) v) :
    ∃ a, v = .slice a len cap ∧ len ≤ cap ∧ VR Γ w (.rs i g off len) v := by
  cases h with
  | rc _ _ _ _ _ a h1 h2 h3 => exact ⟨a, rfl, h2, .rs i g off len a cap h1 h2 h3⟩

/-- A new row: what a slice held, then other elements, then what the new capacity says. -/
theorem grown_row {E : Env} {Γ : Ctx} {σ : Store} {w : World} {e : TypeId} {olds news : List AV} {ous nus : List Value} {zs : Array Value} {c : Nat} {K : AV → Store → Prop} (hr : R E Γ σ w) (h1 : CellsRel Γ w (flat olds) ous) (h2 : CellsRel Γ w (flat news) nus)
    (hs1 : ∀ y ∈ olds, y.cells.length = tsz E.P e) (hs2 : ∀ y ∈ news, y.cells.length = tsz E.P e) (hc : olds.length + news.length ≤ c) (hm : c ≤ maxLen) (hz : zs.size = (c - (olds.length + news.length)) * tsz E.P e)
    (h : K (.rs σ.next 0 0 (olds.length + news.length)) (σ.alloc (.arr e 0 (olds ++ news)))) :
    Res E Γ w K (.slice (some ⟨w.heap.size, 0, none⟩) (olds.length + news.length) c) (w.drew.alloc (.cells (ous.toArray ++ (nus.toArray ++ zs)) e)) := by
  have hall : ∀ y ∈ olds ++ news, y.cells.length = tsz E.P e := fun y hy => by
    rcases List.mem_append.1 hy with hy | hy
    · exact hs1 y hy
    · exact hs2 y hy
  have hcr : CellsRel Γ w (flat (olds ++ news)) (ous ++ nus) := by rw [flat_append]; exact h1.append h2
  have hrow : RowRel Γ w (tsz E.P e) (olds ++ news) (ous.toArray ++ (nus.toArray ++ zs)) := by
    refine ⟨hall, fun k y j x hk hj => ?_⟩
    have hf := flat_get hall hk hj
    have hlt : k * tsz E.P e + j < (ous ++ nus).length := by rw [hcr.1]; exact (List.getElem?_eq_some_iff.1 hf).1
    have hu := List.getElem?_eq_getElem hlt
    refine ⟨_, ?_, hcr.2.1 _ (List.mem_of_getElem? hu), hcr.2.2 _ _ _ hf hu⟩
    rw [← hu]
    simp only [Array.getElem?_append, List.size_toArray, List.getElem?_toArray, List.getElem?_append]
    split
    · rfl
    · rw [if_pos (by rw [List.length_append] at hlt; omega)]
  have := new_owned (K := K) (e := e) (es := olds ++ news) (xs := ous.toArray ++ (nus.toArray ++ zs)) (fr := (0, 0)) (cap := c) (w' := w.drew.alloc (.cells (ous.toArray ++ (nus.toArray ++ zs)) e)) hr hrow (by simpa using hc) hm (by
    simp only [Array.size_append, List.size_toArray, h1.1, h2.1, flat_length hs1, flat_length hs2, hz]
    rw [← Nat.add_mul, ← Nat.add_mul]; congr 1; omega) (.inl rfl) (grown_of_drew_alloc w _ _) (heap_alloc_new w.drew _) (by simpa using h)
  simpa using this

theorem aAppendC_ok {E : Env} {Γ : Ctx} {σ : Store} {w : World} {t u ty : TypeId} {i g off len cap T : Nat} {es : List AV} {x : AV} {sv xv : Value} {K : AV → Store → Prop} (hr : R E Γ σ w) (hsv : VR Γ w (.rc i g off len cap) sv) (hxv : VR Γ w x xv)
    (hget : σ.get i = some (.arr T g es)) (h : aAppendC E t u i g off len cap T es x σ K) : ∃ v w', (Builtin.append_ #[t, u] ty #[sv, xv]).run E.P w = .ok v w' ∧ Res E Γ w K v w' := by
  obtain ⟨hu', h⟩ := h
  have hu : E.P.underlying u = some .string ∨ ∃ e', E.P.underlying u = some (.slice e') := by
    rcases hu' with hu' | ⟨e, hu'⟩
    · exact .inl (tk_str hu')
    · exact .inr ⟨e, tk_slc hu'⟩
  split at h
  · rename_i e ht'
    have ht := tk_slc ht'
    obtain ⟨hnz, hzok, hzs, hTe, hoff, h⟩ := h
    split at h
    · rename_i news hel
      obtain ⟨hns, hcap, hby, hmx, h⟩ := h
      obtain ⟨inf, hi, hsize⟩ : ∃ inf, E.P.info? e = some inf ∧ inf.size = tsz E.P e := by
        unfold tsz cellsOf' at *
        cases hi : E.P.info? e with
        | none => simp [hi] at hnz
        | some inf => exact ⟨inf, rfl, by simp⟩
      have hbys : tby E.P e = inf.bytes := by simp [tby, hi]
      obtain ⟨z, hz, hzv⟩ : ∃ z, inf.zero = some z ∧ VR Γ w (azero E.P e) z := by
        unfold azero tzero at *
        cases hzz : inf.zero with
        | none => simp [hi, hzz, AV.ok] at hzok
        | some z => exact ⟨z, rfl, by simpa [hi, hzz] using VR.ofV Γ w z⟩
      have hzsz : z.cells.size = tsz E.P e := by rw [hzs]; exact ((hzv.cells hzok).1).symm
      have hlen := fun w' => run_lenOf (E := E) hxv hel w'
      obtain ⟨us, husc, hnew⟩ := run_firstCells hr hxv hel hns
      obtain ⟨a, rfl, hlc, hrs⟩ := rc_inv hsv
      obtain ⟨l, hl, ho, hlt⟩ := hr.loc hget
      simp only [ObjRel] at ho
      obtain ⟨o1, o2, o3, o4, o5, o6⟩ := ho
      have hlsz : l.sz = tsz E.P e := by rw [o2, hTe]; rfl
      have hos : ∀ y ∈ (es.drop off).take len, y.cells.length = tsz E.P e := fun y hy => by rw [← hlsz]; exact o3 y (List.mem_of_mem_drop (List.mem_of_mem_take hy))
      have hol : ((es.drop off).take len).length = len := by simp; omega
      obtain ⟨olds, ho1, ho2⟩ := run_firstCells (x := .rs i g off len) (es := (es.drop off).take len) hr hrs (by simp [aElems, hget]; omega) hos
      rw [hol] at ho2
      have holl : olds.length = len * tsz E.P e := by rw [ho1.1, flat_length hos, hol]
      have husl : us.length = news.length * tsz E.P e := by rw [husc.1, flat_length hns]
      rcases run_append_gen (ty := ty) (cap := cap) (n := len) (a := a) (olds := olds) ht hu hi hz hsize hlen hnew husl husc.2.1 ho2 holl hlc (fun hh => by omega) hmx (by rw [← hbys]; exact hby) with ⟨hh, _⟩ | ⟨c, c1, c2, hrun⟩
      · omega
      · refine ⟨_, _, hrun, ?_⟩
        have := grown_row (K := K) (zs := Builtin.zeroCells z.cells (c - (len + news.length))) (c := c) hr ho1 husc hos hns (by rw [hol]; exact c1) c2 (by rw [size_zeroCells, hzsz, hol]) (by rw [hol]; exact h)
        rwa [hol] at this
    · exact h.elim
  · exact h.elim

theorem aAppendM_ok {E : Env} {Γ : Ctx} {σ : Store} {w : World} {t u ty : TypeId} {i g off len cap T : Nat} {es : List AV} {kq kn : IntKind} {k : Int} {sv : Value} {K : AV → Store → Prop} (hr : R E Γ σ w) (hsv : VR Γ w (.rc i g off len cap) sv)
    (hu : tk E.P u = .int kn) (hget : σ.get i = some (.arr T g es)) (h : aAppendM E t i g off len cap T es k σ K) : ∃ v w', (Builtin.append_ #[t, u] ty #[sv, .int kq k]).run E.P w = .ok v w' ∧ Res E Γ w K v w' := by
  unfold aAppendM at h
  split at h
  · rename_i e ht'
    have ht := tk_slc ht'
    obtain ⟨hnz, hzok, hzs, hTe, hoff, hk0, hcap, hby, hmx, h⟩ := h
    obtain ⟨n, rfl⟩ := Int.eq_ofNat_of_zero_le (Int.le_of_lt hk0)
    simp only [Int.toNat_natCast] at *
    obtain ⟨inf, hi, hsize⟩ : ∃ inf, E.P.info? e = some inf ∧ inf.size = tsz E.P e := by
      unfold tsz cellsOf' at *
      cases hi : E.P.info? e with
      | none => simp [hi] at hnz
      | some inf => exact ⟨inf, rfl, by simp⟩
    have hbys : tby E.P e = inf.bytes := by simp [tby, hi]
    obtain ⟨z, hz, hzv⟩ : ∃ z, inf.zero = some z ∧ VR Γ w (azero E.P e) z := by
      unfold azero tzero at *
      cases hzz : inf.zero with
      | none => simp [hi, hzz, AV.ok] at hzok
      | some z => exact ⟨z, rfl, by simpa [hi, hzz] using VR.ofV Γ w z⟩
    have hzsz : z.cells.size = tsz E.P e := by rw [hzs]; exact ((hzv.cells hzok).1).symm
    obtain ⟨a, rfl, hlc, hrs⟩ := rc_inv hsv
    obtain ⟨l, hl, ho, hlt⟩ := hr.loc hget
    simp only [ObjRel] at ho
    obtain ⟨o1, o2, o3, o4, o5, o6⟩ := ho
    have hlsz : l.sz = tsz E.P e := by rw [o2, hTe]; rfl
    have hos : ∀ y ∈ (es.drop off).take len, y.cells.length = tsz E.P e := fun y hy => by rw [← hlsz]; exact o3 y (List.mem_of_mem_drop (List.mem_of_mem_take hy))
    have hol : ((es.drop off).take len).length = len := by simp; omega
    obtain ⟨olds, ho1, ho2⟩ := run_firstCells (x := .rs i g off len) (es := (es.drop off).take len) hr hrs (by simp [aElems, hget]; omega) hos
    rw [hol] at ho2
    have hg : cap < len + n := by omega
    have hmx' : len + n ≤ maxLen := by omega
    have hfit := growslice_fits (bytes := inf.bytes) hg (by rw [← hbys]; exact hby)
    have hkb : n * inf.bytes ≤ 281474976710656 := by
      have : n * tby E.P e ≤ (len + n) * tby E.P e := Nat.mul_le_mul_right _ (by omega)
      rw [← hbys]; omega
    have hrun := Lib.run_append_grow_zeros (P := E.P) w t u ty e inf z kq kn ht (tk_int hu) hi hz a len cap olds (by rw [hsize]; exact ho2 w.drew rfl) n (by omega) (by rw [hsize]; omega) hg (by simp only [maxLen] at hmx'; omega) hkb (by omega)
    refine ⟨_, _, hrun, ?_⟩
    have hcr := zero_cells (n := n) hzv hzok hzs hnz
    have hns : ∀ y ∈ List.replicate n (azero E.P e), y.cells.length = tsz E.P e := fun y hy => by rw [(List.mem_replicate.1 hy).2, hzs]
    have hzr : Builtin.zeroCells z.cells n = (Array.range (n * tsz E.P e)).map (z.cells[· % z.cells.size]!) := by unfold Builtin.zeroCells; rw [hzsz]
    have := grown_row (K := K) (zs := Builtin.zeroCells z.cells (grownCap w (len + n) cap e - (len + n))) (c := grownCap w (len + n) cap e) hr ho1 hcr hos hns (by rw [hol]; simp [grownCap_ge]) (grownCap_le_maxLen _ _ _ _ hmx')
      (by rw [size_zeroCells, hzsz, hol]; simp) (by rw [hol]; simpa using h)
    rw [hol] at this
    rw [hzr, Array.append_assoc]
    simp only [List.length_replicate, Array.toArray_toList] at this
    exact this
  · exact h.elim

/-- A row of which the first cells are known. -/
theorem rowRel_of_pre {Γ : Ctx} {w : World} {sz : Nat} {es : List AV} {us : List Value} {xs : Array Value} (hs : ∀ e ∈ es, e.cells.length = sz) (hc : CellsRel Γ w (flat es) us)
    (hxs : ∀ (m : Nat) (u : Value), us[m]? = some u → xs[m]? = some u) : RowRel Γ w sz es xs := by
  refine ⟨hs, fun k e j x hk hj => ?_⟩
  have hf := flat_get hs hk hj
  have hlt : k * sz + j < us.length := by rw [hc.1]; exact (List.getElem?_eq_some_iff.1 hf).1
  have hu := List.getElem?_eq_getElem hlt
  exact ⟨_, hxs _ _ hu, hc.2.1 _ (List.mem_of_getElem? hu), hc.2.2 _ _ _ hf hu⟩
/-- append onto nothing, the answer written no more. -/
def aAppendF (E : Env) (t u : TypeId) (x : AV) (σ : Store) (K : AV → Store → Prop) : Prop :=
  (tk E.P u = .str ∨ ∃ e, tk E.P u = .slc e) ∧ match tk E.P t with
    | .slc e => tsz E.P e ≠ 0 ∧ (azero E.P e).ok = true ∧ tsz E.P e = (azero E.P e).cells.length ∧ (match aElems σ x with
      | some news => (∀ a ∈ news, a.cells.length = tsz E.P e) ∧ news.length * tby E.P e ≤ 140737488355328 ∧ news.length ≤ maxLen ∧ K (.ps news) σ
      | none => False)
    | _ => False

theorem aAppendF_ok {E : Env} {Γ : Ctx} {σ : Store} {w : World} {t u ty : TypeId} {x : AV} {sv xv : Value} {K : AV → Store → Prop} (hr : R E Γ σ w) (hsv : VR Γ w .nl sv) (hxv : VR Γ w x xv)
    (h : aAppendF E t u x σ K) : ∃ v w', (Builtin.append_ #[t, u] ty #[sv, xv]).run E.P w = .ok v w' ∧ Res E Γ w K v w' := by
  obtain ⟨hu', h⟩ := h
  have hu : E.P.underlying u = some .string ∨ ∃ e', E.P.underlying u = some (.slice e') := by
    rcases hu' with hu' | ⟨e, hu'⟩
    · exact .inl (tk_str hu')
    · exact .inr ⟨e, tk_slc hu'⟩
  split at h
  · rename_i e ht'
    have ht := tk_slc ht'
    obtain ⟨hnz, hzok, hzs, h⟩ := h
    obtain ⟨i, hi, hsize⟩ : ∃ i, E.P.info? e = some i ∧ i.size = tsz E.P e := by
      unfold tsz cellsOf' at *
      cases hi : E.P.info? e with
      | none => simp [hi] at hnz
      | some i => exact ⟨i, rfl, by simp⟩
    have hby : tby E.P e = i.bytes := by simp [tby, hi]
    obtain ⟨z, hz, hzv⟩ : ∃ z, i.zero = some z ∧ VR Γ w (azero E.P e) z := by
      unfold azero tzero at *
      cases hzz : i.zero with
      | none => simp [hi, hzz, AV.ok] at hzok
      | some z => exact ⟨z, rfl, by simpa [hi, hzz] using VR.ofV Γ w z⟩
    split at h
    · rename_i news hel
      obtain ⟨hns, hb, hm, h⟩ := h
      have hlen := fun w' => run_lenOf (E := E) hxv hel w'
      obtain ⟨us, husc, hnew⟩ := run_firstCells hr hxv hel hns
      have husl : us.length = news.length * tsz E.P e := by rw [husc.1, flat_length hns]
      obtain ⟨a, rfl⟩ : ∃ a, sv = .slice a 0 0 := by cases hsv; exact ⟨_, rfl⟩
      by_cases hne : news = []
      · subst hne
        have : us = [] := List.eq_nil_of_length_eq_zero (by simpa using husl)
        subst this
        exact ⟨_, _, run_append_zero ht hu hi hsize (by simpa using hlen) (by simpa using hnew) (Nat.le_refl 0), Res.same hr (.ps [] a 0 0 0 (fun _ _ => Go.undef) (Nat.le_refl 0) (fun hh => absurd rfl hh) (by simp) (by simp) (by simp)) h⟩
      · have hpos : 0 < news.length := by
          cases news with
          | nil => exact absurd rfl hne
          | cons _ _ => simp
        rcases run_append_gen (ty := ty) (cap := 0) (n := 0) (a := a) (olds := []) ht hu hi hz hsize hlen hnew husl husc.2.1 (fun w' _ => by cases a <;> simp [Builtin.firstCells, loadCells, loadCellsFrom]) (by simp) (Nat.le_refl 0)
          (fun hh => by omega) (by simpa using hm) (by rw [← hby]; simpa using hb) with ⟨hh, _⟩ | ⟨c, c1, c2, hrun⟩
        · omega
        · simp only [Nat.zero_add] at hrun c1
          refine ⟨_, _, hrun, ?_⟩
          refine new_sealed (e := e) hr (rowRel_of_pre hns husc fun m v hv => ?_) c1 (grown_of_drew_alloc w _ none) (heap_alloc_new w.drew _) h
          simp only [Array.getElem?_append, List.size_toArray, List.length_nil, Nat.not_lt_zero, if_false, Nat.sub_zero, List.getElem?_toArray]
          rw [if_pos (List.getElem?_eq_some_iff.1 hv).1]; exact hv
    · exact h.elim
  · exact h.elim

/-- append, whatever is known of the slice. -/
def aAppend2 (E : Env) (own : Nat) (t u : TypeId) (s x : AV) (σ : Store) (K : AV → Store → Prop) : Prop :=
  match s with
  | .rc i g off len cap => (match σ.get i with
    | some (.arr T g' es) => g = g' ∧ (if off = 0 ∧ len = es.length then aAppend E t u (.rs i g off len) x σ K else (match tk E.P u, x with
      | .int _, .c (.int _ k) => aAppendM E t i g off len cap T es k σ K
      | _, _ => aAppendC E t u i g off len cap T es x σ K))
    | _ => False)
  | .rs i g off len => (match σ.get i with
    | some (.arr T g' es) => if len = es.length then aAppend E t u (.rs i g off len) x σ K else g = g' ∧ aAppendP E t u i g off len T es x σ K
    | _ => False)
  | .nl => if own = 1 then aAppend E t u .nl x σ K else if own = 3 then aAppendF E t u x σ K else aAppendL E t u .nl x σ K
  | .lg i es => aAppendL E t u (.lg i es) x σ K
  | _ => False

theorem aAppend2_ok {own : Nat} {E : Env} {Γ : Ctx} {σ : Store} {w : World} {t u ty : TypeId} {s x : AV} {sv xv : Value} {K : AV → Store → Prop} (hr : R E Γ σ w) (hsv : VR Γ w s sv) (hxv : VR Γ w x xv)
    (h : aAppend2 E own t u s x σ K) : ∃ v w', (Builtin.append_ #[t, u] ty #[sv, xv]).run E.P w = .ok v w' ∧ Res E Γ w K v w' := by
  unfold aAppend2 at h
  split at h
  · rename_i i g off len cap
    split at h
    · rename_i T g' es hget
      obtain ⟨rfl, h⟩ := h
      split at h
      · obtain ⟨a, rfl, _, hrs⟩ := rc_inv hsv
        exact aAppend_ok hr hrs hxv h
      · split at h
        · rename_i kn kq k hu
          cases hxv
          exact aAppendM_ok hr hsv hu hget h
        · exact aAppendC_ok hr hsv hxv hget h
    · exact h.elim
  · split at h
    · rename_i T g' es hget
      split at h
      · exact aAppend_ok hr hsv hxv h
      · obtain ⟨rfl, h⟩ := h
        exact aAppendP_ok hr hsv hxv hget h
    · exact h.elim
  · split at h
    · exact aAppend_ok hr hsv hxv h
    · split at h
      · exact aAppendF_ok hr hsv hxv h
      · exact aAppendL_ok hr hsv hxv h
  · exact aAppendL_ok hr hsv hxv h
  · exact h.elim

/-- The capacity, where it is known. -/
def aCap (E : Env) (t : TypeId) (x : AV) (K : AV → Prop) : Prop :=
  match tk E.P t, x with
  | .slc _, .rc _ _ _ _ cap => K (.c (.int .i64 cap))
  | _, _ => False

theorem aCap_ok {E : Env} {Γ : Ctx} {σ : Store} {w : World} {t ty : TypeId} {x : AV} {xv : Value} {K : AV → Store → Prop} (hr : R E Γ σ w) (hx : VR Γ w x xv) (h : aCap E t x fun a => K a σ) :
    ∃ v, (Builtin.cap_ #[t] ty #[xv]).run E.P w = .ok v w ∧ Res E Γ w K v w := by
  unfold aCap at h
  split at h
  · rename_i ht
    obtain ⟨a, rfl, _, _⟩ := rc_inv hx
    exact ⟨_, by simp [Builtin.cap_, goInt, run_underlying (tk_slc ht)], Res.same hr (.c _ rfl) h⟩
  · exact h.elim

/-- A cut with a third index: what it yields is not known. -/
def aSlice3 (E : Env) (t : TypeId) (x : AV) (lo hi mx : Option AV) (σ : Store) (K : AV → Prop) : Prop :=
  match tk E.P t, aOwn x, lo, hi, mx with
  | .slc e, some (i, g, off, len), some (.c (.int _ l)), some (.c (.int _ h)), some (.c (.int _ m)) => tsz E.P e ≠ 0 ∧ 0 ≤ l ∧ l ≤ h ∧ h ≤ m ∧ m ≤ len ∧ K .junk
  | _, _, _, _, _ => False

theorem aSlice3_ok {E : Env} {Γ : Ctx} {σ : Store} {w : World} {t : TypeId} {x : AV} {xv : Value} {lo hi mx : Option AV} {lov hiv mxv : Option Value} {K : AV → Store → Prop} (hr : R E Γ σ w) (hx : VR Γ w x xv)
    (hlo : IxRel Γ w lo lov) (hhi : IxRel Γ w hi hiv) (hmx : IxRel Γ w mx mxv) (h : aSlice3 E t x lo hi mx σ fun a => K a σ) : Up E Γ w K ((do pure (.value (← Instr.sliceAt t xv lov hiv mxv)) : Sem Next).run E.P w) := by
  unfold aSlice3 at h
  split at h
  · rename_i e i g off len kl l kh h' km m ht how
    obtain ⟨hnz, h0, h1, h2, h3, h⟩ := h
    obtain ⟨a, cap, rfl, hin, hlc, hat⟩ := own_inv hx how
    have hu := tk_slc ht
    have hs := run_tsz hnz w
    obtain ⟨v, rfl⟩ : ∃ v, lov = some v := by cases lov with | none => exact hlo.elim | some v => exact ⟨v, rfl⟩
    obtain ⟨v', rfl⟩ : ∃ v, hiv = some v := by cases hiv with | none => exact hhi.elim | some v => exact ⟨v, rfl⟩
    obtain ⟨v'', rfl⟩ : ∃ v, mxv = some v := by cases mxv with | none => exact hmx.elim | some v => exact ⟨v, rfl⟩
    have e1 : VR Γ w (.c (.int kl l)) v := hlo
    have e2 : VR Γ w (.c (.int kh h')) v' := hhi
    have e3 : VR Γ w (.c (.int km m)) v'' := hmx
    cases e1; cases e2; cases e3
    have hb : ∀ (k : IntKind) (i : Int) (y : Nat) (code : BoundsCode), 0 ≤ i → i ≤ y → (Instr.sliceBound (.int k i) y code).run E.P w = .ok i.toNat w := fun k i y code a b => by simp [Instr.sliceBound, asIntOf, a, b]
    have hbs : ∃ r : Nat × Nat × Nat, (Instr.sliceBounds true len cap (some (.int kl l)) (some (.int kh h')) (some (.int km m))).run E.P w = .ok r w := by
      refine ⟨(l.toNat, h'.toNat, m.toNat), ?_⟩
      simp [Instr.sliceBounds, hb km m cap _ (by omega) (by omega), hb kh h' m.toNat _ (by omega) (by omega), hb kl l h'.toNat _ h0 (by omega)]
    obtain ⟨⟨r1, r2, r3⟩, hbs⟩ := hbs
    refine Up.value (v := .slice (if r3 = r1 then a else a.map (·.add (r1 * tsz E.P e))) (r2 - r1) (r3 - r1)) (w' := w) ?_ (Res.same hr (.junk _) h)
    simp [Instr.sliceAt, Instr.slice, run_underlying hu, hbs, hs]
  · exact h.elim
end Go.AW
end

section
set_option linter.unusedVariables false
set_option linter.unusedSimpArgs false
set_option linter.unnecessarySimpa false
namespace Go.AW
open Go

def VRs (Γ : Ctx) (w : World) (as : List AV) (vs : List Value) : Prop := as.length = vs.length ∧ ∀ (j : Nat) (a : AV) (v : Value), as[j]? = some a → vs[j]? = some v → VR Γ w a v

/-- The function behind a method of a type. -/
def methodOf (P : Program) (t : TypeId) (m : String) : Option FuncId :=
  match P.info? t with
  | some i => (match i.methods.find? (·.name == m) with
    | some x => if x.path.isEmpty then (match x.func with
      | some (f, true) => (match P.underlying t with
        | some (.pointer _) => some f
        | _ => none)
      | some (f, false) => (match P.underlying t with
        | some (.pointer _) => none
        | some _ => some f
        | none => none)
      | none => none) else none
    | none => none)
  | none => none

theorem run_methodOf {P : Program} {t : TypeId} {m : String} {k : FuncId} (h : methodOf P t m = some k) (u : Value) (w : World) : ∀ n, (method (n + 1) t u m).run P w = .ok (k, u) w := by
  intro n
  unfold methodOf at h
  split at h
  · rename_i i hi
    split at h
    · rename_i x hx
      split at h
      · rename_i hp
        have hp' : x.path = #[] := by simpa using hp
        split at h
        · rename_i f hf
          split at h
          · rename_i e hu
            cases h
            simp [method, typeInfo, hi, hx, hp', follow, hf, receiverAt, run_underlying hu, Place.get]
          · cases h
        · rename_i f hf
          split at h
          · cases h
          · rename_i d hd hu
            cases h
            cases d <;> first | exact absurd rfl (hd _) | (simp [method, typeInfo, hi, hx, hp', follow, hf, receiverAt, run_underlying hu, Place.get]; done)
          · cases h
        · cases h
      · cases h
    · cases h
  · cases h

/-! ### Maps, iterators, assertions -/
def TK.isMap : TK → Bool
  | .map .. => true
  | _ => false
/-- A key that is compared as it stands. -/
def keyOk : TK → Value → Prop
  | .bool, .bool _ => True
  | .int k, .int k' _ => k' = k
  | .str, .string _ => True
  | _, _ => False
open Classical in
/-- The first entry with this key: its index and its value. -/
noncomputable def aFind (k : Value) : List (Value × AV) → Option (Nat × AV)
  | [] => none
  | e :: es => if e.1 = k then some (0, e.2) else (aFind k es).map fun p => (p.1 + 1, p.2)
theorem isKey_of {P : Program} {t : TypeId} {k : Value} (h : keyOk (tk P t) k) : ∃ d, P.underlying t = some d ∧ ∀ k', keyOk (tk P t) k' → MapKept.IsKey d k' := by
  unfold tk at h ⊢
  cases hu : P.underlying t with
  | none => simp [hu, keyOk] at h
  | some d =>
    refine ⟨d, rfl, fun k' hk' => ?_⟩
    cases d <;> cases k' <;> simp_all [keyOk, MapKept.IsKey]
theorem aFind_get {k : Value} : ∀ {ents : List (Value × AV)} {j : Nat} {a : AV}, aFind k ents = some (j, a) → ents[j]? = some (k, a)
  | [], j, a, h => by simp [aFind] at h
  | e :: es, j, a, h => by
    simp only [aFind] at h
    split at h
    · rename_i he
      cases h
      obtain ⟨e1, e2⟩ := e
      simp at he
      simp [he]
    · cases hf : aFind k es with
      | none => simp [hf] at h
      | some p =>
        obtain ⟨j', a'⟩ := p
        simp [hf] at h
        obtain ⟨rfl, rfl⟩ := h
        simpa using aFind_get hf
theorem findNow_aFind {d : TypeDesc} {k : Value} (hk : MapKept.IsKey d k) : ∀ (l : List MapEntry) (ents : List (Value × AV)) (i : Nat), l.map (·.key) = ents.map (·.1) → (∀ x ∈ ents, MapKept.IsKey d x.1) →
    Instr.findNow d k l i = some ((aFind k ents).bind fun p => (l[p.1]?).map fun e => (i + p.1, e.val))
  | [], [], i, _, _ => rfl
  | [], _ :: _, _, h, _ => by simp at h
  | _ :: _, [], _, h, _ => by simp at h
  | e :: l, en :: ents, i, h, hks => by
    simp only [List.map_cons, List.cons.injEq] at h
    obtain ⟨r, hr, hiff⟩ := MapKept.sameNow_of_keys hk (a := k) (b := e.key) (by rw [h.1]; exact hks en (by simp))
    have ih := findNow_aFind hk l ents (i + 1) h.2 fun x hx => hks x (by simp [hx])
    cases r with
    | true =>
      have : en.1 = k := by rw [← h.1, hiff.1 rfl]
      simp [Instr.findNow, hr, aFind, this]
    | false =>
      have hne : ¬ en.1 = k := fun q => by have := hiff.2 (by rw [h.1, q]); cases this
      simp only [Instr.findNow, hr, aFind, hne, if_false, ih]
      cases aFind k ents with
      | none => simp
      | some p =>
        simp
        cases l[p.1]? with
        | none => rfl
        | some x => simp; omega

/-- The object of a map's value. -/
theorem R.map_at {E : Env} {Γ : Ctx} {σ : Store} {w : World} (hr : R E Γ σ w) {i : Nat} {v : Value} (hv : VR Γ w (.mp i) v) {ents : List (Value × AV)} {born : List Nat} {clock : Nat} (hi : σ.get i = some (.map ents born clock)) :
    ∃ l b es, Γ.get i = some l ∧ l.blk = some b ∧ l.gen = 0 ∧ v = .map (some b) ∧ w.heap[b]? = some (.map es clock) ∧ es.size = ents.length ∧
      (∀ (k : Nat) (e : MapEntry) (en : Value × AV), es[k]? = some e → ents[k]? = some en → e.key = en.1 ∧ VR Γ w en.2 e.val) ∧ es.toList.map (·.born) = born := by
  obtain ⟨l, hl, ho, _⟩ := hr.loc hi
  obtain ⟨h0, b, es, hb, hh, hs, he, hn⟩ := ho
  cases hv with
  | mp i r hlt h =>
    have := h l hl h0
    rw [hb] at this
    cases this
    exact ⟨l, b, es, hl, hb, h0, rfl, hh, hs, he, hn⟩

theorem keys_eq {Γ : Ctx} {w : World} {es : Array MapEntry} {ents : List (Value × AV)} (hs : es.size = ents.length) (he : ∀ (k : Nat) (e : MapEntry) (en : Value × AV), es[k]? = some e → ents[k]? = some en → e.key = en.1 ∧ VR Γ w en.2 e.val) : es.toList.map (·.key) = ents.map (·.1) := by
  refine List.ext_getElem? fun j => ?_
  simp only [List.getElem?_map, Array.getElem?_toList]
  rcases Nat.lt_or_ge j es.size with h | h
  · have h' : j < ents.length := by omega
    rw [Array.getElem?_eq_getElem h, List.getElem?_eq_getElem h']
    simp only [Option.map_some]
    rw [(he j _ _ (Array.getElem?_eq_getElem h) (List.getElem?_eq_getElem h')).1]
  · rw [Array.getElem?_eq_none h, List.getElem?_eq_none (by omega)]
    rfl

/-- What a search for a key finds. -/
theorem run_find {P : Program} {Γ : Ctx} {w : World} {es : Array MapEntry} {ents : List (Value × AV)} (hs : es.size = ents.length) (he : ∀ (k : Nat) (e : MapEntry) (en : Value × AV), es[k]? = some e → ents[k]? = some en → e.key = en.1 ∧ VR Γ w en.2 e.val)
    {kt : TypeId} {k : Value} (hk : keyOk (tk P kt) k) (hks : ∀ e ∈ ents, keyOk (tk P kt) e.1) :
    (∀ b, (Instr.checkKey b 10000 kt k).run P w = .ok () w) ∧ (Instr.keyThatStays k k).run P w = .ok k w ∧
    (match aFind k ents with
      | none => (Instr.findKey kt k es.toList).run P w = .ok none w
      | some (j, a) => ∃ e, es[j]? = some e ∧ e.key = k ∧ VR Γ w a e.val ∧ (Instr.findKey kt k es.toList).run P w = .ok (some (j, e.val)) w) := by
  obtain ⟨d, hd, hkd⟩ := isKey_of hk
  refine ⟨fun b => MapKept.run_checkKey hd (hkd k hk) b 9999, MapKept.run_keyThatStays (hkd k hk), ?_⟩
  have hf := findNow_aFind (hkd k hk) es.toList ents 0 (keys_eq hs he) fun x hx => hkd _ (hks x hx)
  cases ha : aFind k ents with
  | none =>
    rw [ha] at hf
    exact MapKept.run_findKey hd hf
  | some p =>
    obtain ⟨j, a⟩ := p
    have hg := aFind_get ha
    have hj : j < es.size := by rw [hs]; exact (List.getElem?_eq_some_iff.1 hg).1
    obtain ⟨h1, h2⟩ := he j _ _ (Array.getElem?_eq_getElem hj) hg
    refine ⟨es[j], Array.getElem?_eq_getElem hj, h1, h2, ?_⟩
    rw [ha] at hf
    simp only [Option.bind_some, Array.getElem?_toList, Array.getElem?_eq_getElem hj, Option.map_some, Nat.zero_add] at hf
    exact MapKept.run_findKey hd hf

/-- Writing an object that is no row. -/
theorem R.put {E : Env} {Γ : Ctx} {σ : Store} {w w' : World} {i b : Nat} {o o' : AObj} {l : Loc} {ob : Obj} (hr : R E Γ σ w) (hi : σ.get i = some o) (hl : Γ.get i = some l) (hb : l.blk = some b) (ho : o.lim l = none) (ho' : o'.lim l = none)
    (hh : w'.heap = w.heap.setIfInBounds b ob) (h1 : w'.os = w.os) (h2 : w'.tape = w.tape) (h3 : w'.output = w.output)
    (hob : ∀ (_ : ExtN Γ.next Γ w (Γ.set i l) w') (_ : w'.heap[b]? = some ob), ObjRel E.P (Γ.set i l) w' o' l) : ExtN Γ.next Γ w (Γ.set i l) w' ∧ R E (Γ.set i l) (σ.set i o') w' := by
  have hlt : b < w.heap.size := hr.blk_lt ⟨i, l, hl, hb⟩
  refine hr.upd hi hl ⟨h1, h2, h3, by rw [hh]; simp, fun k hk hne => ?_⟩ (.inl rfl) (.inl rfl) (fun b' m hb' hm => by rw [hr.lims i o l hi hl, ho] at hm; cases hm) (by rw [hr.lims i o l hi hl, ho, ho']) fun hx => hob hx (by rw [hh]; simp [hlt])
  rw [hh, Array.getElem?_setIfInBounds, if_neg (by rintro rfl; exact hne hb.symm)]

/-- A new object that is no row. -/
theorem R.make {E : Env} {Γ : Ctx} {σ : Store} {w : World} {o' : AObj} {ob : Obj} (hr : R E Γ σ w) (ho' : o'.lim ⟨some w.heap.size, 0, 0, 0, none⟩ = none)
    (hob : ∀ (_ : ExtN Γ.next Γ w (Γ.alloc ⟨some w.heap.size, 0, 0, 0, none⟩) (w.alloc ob)) (_ : (w.alloc ob).heap[w.heap.size]? = some ob), ObjRel E.P (Γ.alloc ⟨some w.heap.size, 0, 0, 0, none⟩) (w.alloc ob) o' ⟨some w.heap.size, 0, 0, 0, none⟩) :
    ExtN Γ.next Γ w (Γ.alloc ⟨some w.heap.size, 0, 0, 0, none⟩) (w.alloc ob) ∧ R E (Γ.alloc ⟨some w.heap.size, 0, 0, 0, none⟩) (σ.alloc o') (w.alloc ob) := by
  refine hr.new ⟨rfl, rfl, rfl, by simp, fun k hk _ => ?_⟩ (.inr ⟨_, rfl, Nat.le_refl _⟩) ho'.symm fun hx => hob hx (MapKept.heap_alloc w ob).1
  exact (MapKept.heap_alloc w ob).2 k hk

theorem VR.made {E : Env} {Γ : Ctx} {σ : Store} {w : World} (hr : R E Γ σ w) (w' : World) : VR (Γ.alloc ⟨some w.heap.size, 0, 0, 0, none⟩) w' (.rp σ.next 0 0 0) (.pointer (some ⟨w.heap.size, 0, none⟩)) ∧ VR (Γ.alloc ⟨some w.heap.size, 0, 0, 0, none⟩) w' (.mp σ.next) (.map (some w.heap.size)) := by
  have hn : (Γ.alloc ⟨some w.heap.size, 0, 0, 0, none⟩).get σ.next = some ⟨some w.heap.size, 0, 0, 0, none⟩ := by simp [Ctx.alloc, hr.next]
  refine ⟨.rp _ _ _ _ _ (by simp [Ctx.alloc, hr.next]) fun l hl => ?_, .mp _ _ (by simp [Ctx.alloc, hr.next]) fun l hl _ => ?_⟩
  · rw [hn] at hl; cases hl
    exact ⟨Nat.le_refl _, fun _ => ⟨_, rfl, by simp⟩⟩
  · rw [hn] at hl; cases hl; rfl

theorem iter_at {E : Env} {Γ : Ctx} {σ : Store} {w : World} (hr : R E Γ σ w) {i : Nat} {v : Value} (hv : VR Γ w (.rp i 0 0 0) v) {o : AObj} (hi : σ.get i = some o) (ho : ∀ l, ObjRel E.P Γ w o l → l.gen = 0) :
    ∃ l b, Γ.get i = some l ∧ l.blk = some b ∧ v = .pointer (some ⟨b, 0, none⟩) ∧ ObjRel E.P Γ w o l := by
  obtain ⟨l, hl, hob, _⟩ := hr.loc hi
  cases hv with
  | rp i g k off a hlt h =>
    obtain ⟨b, hb, rfl⟩ := (h l hl).2 (ho l hob)
    exact ⟨l, b, hl, hb, by simp, hob⟩

def aRange (E : Env) (t : TypeId) (x : AV) (σ : Store) (K : AV → Store → Prop) : Prop :=
  match x with
  | .c (.string s) => tk E.P t = .str ∧ K (.rp σ.next 0 0 0) (σ.alloc (.it (.stringIter s 0)))
  | .c (.map none) => (tk E.P t).isMap = true ∧ K (.rp σ.next 0 0 0) (σ.alloc (.it (.mapIter none 0 #[] 0)))
  | .mp m => (tk E.P t).isMap = true ∧ match σ.get m with
    | some (.map ents born clock) => K (.rp σ.next 0 0 0) (σ.alloc (.mi m clock [] clock))
    | _ => False
  | _ => False

def aNext (x : AV) (str : Bool) (σ : Store) (K : AV → Store → Prop) : Prop :=
  match x with
  | .rp i 0 0 0 => (match σ.get i with
    | some (.it (.stringIter s pos)) => str = true ∧ if pos < s.size then K (.tup [.c (.bool true), .c (.int .i64 pos), .c (.int .i32 (Utf8.decode s pos).1)]) (σ.set i (.it (.stringIter s (pos + (Utf8.decode s pos).2))))
      else K (.tup [.c (.bool false)]) σ
    | some (.it (.mapIter none _ _ _)) => str = false ∧ K (.tup [.c (.bool false)]) σ
    | some (.mi m since seen last) => str = false ∧ (match σ.get m with
      | some (.map ents born clock) => (∀ e ∈ ents, e.1.oneCell' = true) ∧ (∀ b ∈ born, b < since) ∧ since ≤ last ∧ ((∀ b ∈ born, b ∈ seen) → K (.tup [.c (.bool false)]) σ) ∧
        ∀ (j : Nat) (en : Value × AV) (b : Nat), ents[j]? = some en → born[j]? = some b → b ∉ seen → K (.tup [.c (.bool true), .c en.1, en.2]) (σ.set i (.mi m since (seen ++ [b]) clock))
      | _ => False)
    | _ => False)
  | _ => False

def aLook (E : Env) (t : TypeId) (x k : AV) (ok : Bool) (σ : Store) (K : AV → Store → Prop) : Prop :=
  match tk E.P t, k with
  | .map kt et, .c kv => keyOk (tk E.P kt) kv ∧ (match tzero E.P et with
    | some z => (match x with
      | .c (.map none) => K (if ok then .tup [AV.ofV z, .c (.bool false)] else AV.ofV z) σ
      | .mp m => (match σ.get m with
        | some (.map ents born clock) => (∀ e ∈ ents, keyOk (tk E.P kt) e.1) ∧ (match aFind kv ents with
          | some p => K (if ok then .tup [p.2, .c (.bool true)] else p.2) σ
          | none => K (if ok then .tup [AV.ofV z, .c (.bool false)] else AV.ofV z) σ)
        | _ => False)
      | _ => False)
    | none => False)
  | _, _ => False

def aMapPut (E : Env) (t : TypeId) (m k x : AV) (σ : Store) (K : AV → Store → Prop) : Prop :=
  match tk E.P t, m, k with
  | .map kt et, .mp i, .c kv => keyOk (tk E.P kt) kv ∧ (match σ.get i with
    | some (.map ents born clock) => (∀ e ∈ ents, keyOk (tk E.P kt) e.1) ∧ (match aFind kv ents with
      | some p => K (.tup []) (σ.set i (.map (ents.set p.1 (kv, x)) born clock))
      | none => K (.tup []) (σ.set i (.map (ents ++ [(kv, x)]) (born ++ [clock]) (clock + 1))))
    | _ => False)
  | _, _, _ => False

def aMapEntry (E : Env) (t : TypeId) (m k : AV) (σ : Store) (K : AV → Store → Prop) : Prop :=
  match tk E.P t, m, k with
  | .map kt et, .mp i, .c kv => keyOk (tk E.P kt) kv ∧ (match σ.get i, tzero E.P et with
    | some (.map ents born clock), some z => (∀ e ∈ ents, keyOk (tk E.P kt) e.1) ∧ (match aFind kv ents with
      | some p => K (.tup [p.2, .c (.int .i64 (born.getD p.1 0))]) (σ.set i (.map ents born clock))
      | none => K (.tup [AV.ofV z, .c (.int .i64 clock)]) (σ.set i (.map (ents ++ [(kv, AV.ofV z)]) (born ++ [clock]) (clock + 1))))
    | _, _ => False)
  | _, _, _ => False

def aEntryStore (m s x : AV) (σ : Store) (K : AV → Store → Prop) : Prop :=
  match m, s with
  | .mp i, .c (.int _ n) => (match σ.get i with
    | some (.map ents born clock) => (match born.findIdx? (fun b : Nat => (b : Int) == n) with
      | some j => K (.tup []) (σ.set i (.map (ents.modify j fun e => (e.1, x)) born clock))
      | none => False)
    | _ => False)
  | _, _ => False

def aMapDel (E : Env) (t : TypeId) (m k : AV) (σ : Store) (K : AV → Store → Prop) : Prop :=
  match tk E.P t, m, k with
  | .map kt et, .mp i, .c kv => keyOk (tk E.P kt) kv ∧ (match σ.get i with
    | some (.map ents born clock) => (∀ e ∈ ents, keyOk (tk E.P kt) e.1) ∧ (match aFind kv ents with
      | some p => K (.tup []) (σ.set i (.map (ents.eraseIdx p.1) (born.eraseIdx p.1) clock))
      | none => K (.tup []) (σ.set i (.map ents born clock)))
    | _ => False)
  | _, _, _ => False

def aAssert (E : Env) (x : AV) (t : TypeId) (ok : Bool) (K : AV → Prop) : Prop :=
  tk E.P t ≠ .ifc ∧ tk E.P t ≠ .other ∧ (match x with
  | .ifc u v => if u = t then K (if ok then .tup [v, .c (.bool true)] else v) else ok = true ∧ (match tzero E.P t with
    | some z => K (.tup [AV.ofV z, .c (.bool false)])
    | none => False)
  | .c .nilIface => ok = true ∧ (match tzero E.P t with
    | some z => K (.tup [AV.ofV z, .c (.bool false)])
    | none => False)
  | _ => False)

theorem run_tzero {P : Program} {t : TypeId} {z : Value} (h : tzero P t = some z) (w : World) : (zeroValue t).run P w = .ok z w := by
  unfold tzero at h
  cases hi : P.info? t with
  | none => simp [hi] at h
  | some i => simp [hi] at h; simp [zeroValue, typeInfo, hi, h]

theorem isMap_some {P : Program} {t : TypeId} (h : (tk P t).isMap = true) : ∃ k e, P.underlying t = some (.map k e) := by
  cases hk : tk P t <;> simp [hk, TK.isMap] at h
  exact ⟨_, _, tk_map hk⟩
theorem aRange_ok {E : Env} {Γ : Ctx} {σ : Store} {w : World} {t : TypeId} {x : AV} {xv : Value} {K : AV → Store → Prop} (hr : R E Γ σ w) (hx : VR Γ w x xv) (h : aRange E t x σ K) : Up E Γ w K ((do pure (.value (← Instr.range t xv)) : Sem Next).run E.P w) := by
  unfold aRange at h
  split at h
  · rename_i s
    cases hx
    obtain ⟨ht, h⟩ := h
    obtain ⟨k1, k2⟩ := hr.make (o' := .it (.stringIter s 0)) (ob := .stringIter s 0) rfl fun hx hh => ⟨rfl, _, rfl, hh, rfl⟩
    refine Up.value (v := .pointer (some ⟨w.heap.size, 0, none⟩)) (w' := w.alloc (.stringIter s 0)) ?_ ⟨_, _, _, k1, k2, (VR.made hr _).1, h⟩
    simp [Instr.range, run_underlying (tk_str ht), Result.andThen]
  · cases hx
    obtain ⟨ht, h⟩ := h
    obtain ⟨k, e, ht⟩ := isMap_some ht
    obtain ⟨k1, k2⟩ := hr.make (o' := .it (.mapIter none 0 #[] 0)) (ob := .mapIter none 0 #[] 0) rfl fun hx hh => ⟨rfl, _, rfl, hh, rfl⟩
    refine Up.value (v := .pointer (some ⟨w.heap.size, 0, none⟩)) (w' := w.alloc (.mapIter none 0 #[] 0)) ?_ ⟨_, _, _, k1, k2, (VR.made hr _).1, h⟩
    simp [Instr.range, run_underlying ht, Result.andThen]
  · rename_i m
    obtain ⟨ht, h⟩ := h
    obtain ⟨k, e, ht⟩ := isMap_some ht
    split at h
    · rename_i ents born clock hm
      obtain ⟨l, b, es, hl, hb, h0, rfl, hh, hs, he, hn⟩ := hr.map_at hx hm
      obtain ⟨k1, k2⟩ := hr.make (o' := .mi m clock [] clock) (ob := .mapIter (some b) clock #[] clock) rfl fun hx' hh => ⟨rfl, _, b, rfl, hh, hx.ext hx'⟩
      refine Up.value (v := .pointer (some ⟨w.heap.size, 0, none⟩)) (w' := w.alloc (.mapIter (some b) clock #[] clock)) ?_ ⟨_, _, _, k1, k2, (VR.made hr _).1, h⟩
      simp [Instr.range, run_underlying ht, Result.andThen, MapKept.run_getObj_map hh]
    · exact h.elim
  · exact h.elim
theorem aNext_ok {E : Env} {Γ : Ctx} {σ : Store} {w : World} {ty : TypeId} {x : AV} {xv : Value} {str : Bool} {K : AV → Store → Prop} (hr : R E Γ σ w) (hx : VR Γ w x xv) (h : aNext x str σ K) : Up E Γ w K ((do pure (.value (← Instr.next xv str ty)) : Sem Next).run E.P w) := by
  unfold aNext at h
  split at h
  · rename_i i
    split at h
    · rename_i s pos hi
      obtain ⟨rfl, h⟩ := h
      obtain ⟨l, b, hl, hb, rfl, ho⟩ := iter_at hr hx hi fun l hl => hl.1
      obtain ⟨h0, b', hb', hh, _⟩ := ho
      obtain rfl : b' = b := by rw [hb] at hb'; exact (Option.some.inj hb').symm
      split at h
      · rename_i hp
        obtain ⟨k1, k2⟩ := hr.put (w' := ChangeMaps.setBlock w b' (.stringIter s (pos + (Utf8.decode s pos).2))) (o' := .it (.stringIter s (pos + (Utf8.decode s pos).2))) hi hl hb rfl rfl rfl rfl rfl rfl fun hx hh => ⟨h0, _, hb, hh, rfl⟩
        refine Up.value (v := .tuple #[.bool true, .int .i64 pos, .int .i32 (Utf8.decode s pos).1]) ?_ ⟨_, _, _, k1, k2, ?_, h⟩
        · simp only [Instr.next, getObj, Sem.run_bind, Sem.run, hh, Result.andThen, if_pos hp, setObj, goInt]
          rfl
        · refine .tup _ _ rfl ?_
          intro j a x ha hx
          match j, ha, hx with
          | 0, ha, hx => cases ha; cases hx; exact .c _ rfl
          | 1, ha, hx => cases ha; cases hx; exact .c _ rfl
          | 2, ha, hx => cases ha; cases hx; exact .c _ rfl
          | j + 3, ha, hx => simp at ha
      · rename_i hp
        refine Up.value (v := .tuple #[.bool false]) (w' := w) ?_ (Res.same hr ?_ h)
        · simp only [Instr.next, getObj, Sem.run_bind, Sem.run, hh, Result.andThen, if_neg hp]
          rfl
        · refine .tup _ _ rfl ?_
          intro j a x ha hx
          match j, ha, hx with
          | 0, ha, hx => cases ha; cases hx; exact .c _ rfl
          | j + 1, ha, hx => simp at ha
    · rename_i a1 a2 a3 hi
      obtain ⟨rfl, h⟩ := h
      obtain ⟨l, b, hl, hb, rfl, ho⟩ := iter_at hr hx hi fun l hl => hl.1
      obtain ⟨h0, b', hb', hh, _⟩ := ho
      obtain rfl : b' = b := by rw [hb] at hb'; exact (Option.some.inj hb').symm
      refine Up.value (v := .tuple #[.bool false]) (w' := w) ?_ (Res.same hr ?_ h)
      · simp only [Instr.next, getObj, Sem.run_bind, Sem.run, hh, Result.andThen]
        rfl
      · refine .tup _ _ rfl ?_
        intro j a x ha hx
        match j, ha, hx with
        | 0, ha, hx => cases ha; cases hx; exact .c _ rfl
        | j + 1, ha, hx => simp at ha
    · rename_i m since seen last hi
      obtain ⟨rfl, h⟩ := h
      split at h
      · rename_i ents born clock hm
        obtain ⟨hone, hold, hsl, hend, hstep⟩ := h
        obtain ⟨l, b, hl, hb, rfl, ho⟩ := iter_at hr hx hi fun l hl => hl.1
        obtain ⟨h0, b', bm, hb', hh, hmv⟩ := ho
        obtain rfl : b' = b := by rw [hb] at hb'; exact (Option.some.inj hb').symm
        obtain ⟨lm, bm', es, hlm, hbm, h0m, hbe, hhm, hsz, hes, hborn⟩ := hr.map_at hmv hm
        cases hbe
        have hold' : ∀ x ∈ es.toList, x.born < since := fun x hx => hold _ (by rw [← hborn]; exact List.mem_map.2 ⟨x, hx, rfl⟩)
        rcases run_next_at (P := E.P) w ty b' bm since last seen.toArray es clock hh hhm hold' hsl with ⟨hz, hrun⟩ | ⟨e, he, w1, hw1, hrun⟩
        · refine Up.value hrun (Res.same hr ?_ (hend fun q hq => ?_))
          · refine .tup _ _ rfl ?_
            intro j a x ha hx
            match j, ha, hx with
            | 0, ha, hx => cases ha; cases hx; exact .c _ rfl
            | j + 1, ha, hx => simp at ha
          · rw [← hborn] at hq
            obtain ⟨x, hx, rfl⟩ := List.mem_map.1 hq
            by_cases hc : x.born ∈ seen
            · exact hc
            · exfalso
              have : x ∈ leftOf es seen.toArray := by
                unfold leftOf
                rw [Array.mem_filter]
                exact ⟨Array.mem_toList_iff.1 hx, by simpa using hc⟩
              have h1 : leftOf es seen.toArray = #[] := Array.eq_empty_of_size_eq_zero hz
              rw [h1] at this
              simp at this
        · unfold leftOf at he
          rw [Array.mem_toList_iff, Array.mem_filter] at he
          obtain ⟨hem, hes'⟩ := he
          obtain ⟨j, hj, hje⟩ := Array.getElem_of_mem hem
          have hj' : j < ents.length := by omega
          obtain ⟨q1, q2⟩ := hes j e _ (by rw [← hje]; exact Array.getElem?_eq_getElem hj) (List.getElem?_eq_getElem hj')
          have hbj : born[j]? = some e.born := by rw [← hborn]; simp [← hje, hj]
          have hk := hstep j _ e.born (List.getElem?_eq_getElem hj') hbj (by simpa using hes')
          have hwh : w1.heap = w.heap ∧ w1.os = w.os ∧ w1.tape = w.tape ∧ w1.output = w.output := by rcases hw1 with rfl | rfl <;> exact ⟨rfl, rfl, rfl, rfl⟩
          obtain ⟨k1, k2⟩ := hr.put (w' := ChangeMaps.setBlock w1 b' (.mapIter (some bm) since (seen.toArray.push e.born) clock)) (o' := .mi m since (seen ++ [e.born]) clock) hi hl hb rfl rfl (by simp [ChangeMaps.setBlock, hwh.1]; rfl) hwh.2.1 hwh.2.2.1 hwh.2.2.2 fun hx hh => ⟨h0, _, bm, hb, by simpa using hh, hmv.ext hx⟩
          refine Up.value hrun ⟨_, _, _, k1, k2, ?_, hk⟩
          refine .tup _ _ rfl ?_
          intro j' a x ha hx
          match j', ha, hx with
          | 0, ha, hx => cases ha; cases hx; exact .c _ rfl
          | 1, ha, hx => cases ha; cases hx; rw [q1]; exact .c _ (hone _ (List.getElem_mem hj'))
          | 2, ha, hx => cases ha; cases hx; exact q2.ext k1
          | j + 3, ha, hx => simp at ha
      · exact h.elim
    · exact h.elim
  · exact h.elim

theorem pair_vr {Γ : Ctx} {w : World} {a b : AV} {x y : Value} (h1 : VR Γ w a x) (h2 : VR Γ w b y) : VR Γ w (.tup [a, b]) (.tuple #[x, y]) := by
  refine .tup _ _ rfl ?_
  intro j c z hc hz
  match j, hc, hz with
  | 0, hc, hz => cases hc; cases hz; exact h1
  | 1, hc, hz => cases hc; cases hz; exact h2
  | j + 2, hc, hz => simp at hc

theorem aLook_ok {E : Env} {Γ : Ctx} {σ : Store} {w : World} {t : TypeId} {x k : AV} {xv kv : Value} {ok : Bool} {K : AV → Store → Prop} (hr : R E Γ σ w) (hx : VR Γ w x xv) (hk : VR Γ w k kv) (h : aLook E t x k ok σ K) : Up E Γ w K ((do pure (.value (← Instr.lookup t xv kv ok)) : Sem Next).run E.P w) := by
  unfold aLook at h
  split at h
  · rename_i kt et kv' ht
    cases hk
    obtain ⟨hkv, h⟩ := h
    have hu := tk_map ht
    split at h
    · rename_i z hz
      have hzr := run_tzero hz
      split at h
      · cases hx
        obtain ⟨c1, _, c3⟩ := run_find (Γ := Γ) (w := w) (es := #[]) (ents := []) rfl (by simp) hkv (by simp)
        simp only [aFind] at c3
        cases ok with
        | true =>
          refine Up.value (v := .tuple #[z, .bool false]) (w' := w) ?_ (Res.same hr (pair_vr (VR.ofV _ _ _) (.c _ rfl)) h)
          simp [Instr.lookup, run_underlying hu, Result.andThen, c1, c3, hzr]
        | false =>
          refine Up.value (v := z) (w' := w) ?_ (Res.same hr (VR.ofV _ _ _) h)
          simp [Instr.lookup, run_underlying hu, Result.andThen, c1, c3, hzr]
      · rename_i m
        split at h
        · rename_i ents born clock hm
          obtain ⟨l, b, es, hl, hb, h0, rfl, hh, hs, he, hn⟩ := hr.map_at hx hm
          obtain ⟨hks, h⟩ := h
          obtain ⟨c1, _, c3⟩ := run_find hs he hkv hks
          split at h
          · rename_i p hp
            obtain ⟨j, a⟩ := p
            rw [hp] at c3
            obtain ⟨e, e1, e2, e3, e4⟩ := c3
            cases ok with
            | true =>
              refine Up.value (v := .tuple #[e.val, .bool true]) (w' := w) ?_ (Res.same hr (pair_vr e3 (.c _ rfl)) h)
              simp [Instr.lookup, run_underlying hu, Result.andThen, MapKept.run_getObj_map hh, c1, e4]
            | false =>
              refine Up.value (v := e.val) (w' := w) ?_ (Res.same hr e3 h)
              simp [Instr.lookup, run_underlying hu, Result.andThen, MapKept.run_getObj_map hh, c1, e4]
          · rename_i hp
            rw [hp] at c3
            cases ok with
            | true =>
              refine Up.value (v := .tuple #[z, .bool false]) (w' := w) ?_ (Res.same hr (pair_vr (VR.ofV _ _ _) (.c _ rfl)) h)
              simp [Instr.lookup, run_underlying hu, Result.andThen, MapKept.run_getObj_map hh, c1, c3, hzr]
            | false =>
              refine Up.value (v := z) (w' := w) ?_ (Res.same hr (VR.ofV _ _ _) h)
              simp [Instr.lookup, run_underlying hu, Result.andThen, MapKept.run_getObj_map hh, c1, c3, hzr]
        · exact h.elim
      · exact h.elim
    · exact h.elim
  · exact h.elim

/-- A map with one entry more. -/
theorem R.map_push {E : Env} {Γ : Ctx} {σ : Store} {w : World} {i b : Nat} {ents : List (Value × AV)} {born : List Nat} {clock : Nat} {l : Loc} {es : Array MapEntry} {k v : Value} {a : AV} (hr : R E Γ σ w) (hi : σ.get i = some (.map ents born clock)) (hl : Γ.get i = some l) (hb : l.blk = some b) (h0 : l.gen = 0)
    (hs : es.size = ents.length) (he : ∀ (k : Nat) (e : MapEntry) (en : Value × AV), es[k]? = some e → ents[k]? = some en → e.key = en.1 ∧ VR Γ w en.2 e.val) (hn : es.toList.map (·.born) = born) (hv : VR Γ w a v) :
    ExtN Γ.next Γ w (Γ.set i l) (ChangeMaps.setBlock w b (.map (es.push { key := k, val := v, born := clock }) (clock + 1))) ∧ R E (Γ.set i l) (σ.set i (.map (ents ++ [(k, a)]) (born ++ [clock]) (clock + 1))) (ChangeMaps.setBlock w b (.map (es.push { key := k, val := v, born := clock }) (clock + 1))) := by
  refine hr.put hi hl hb rfl rfl rfl rfl rfl rfl fun hx hh => ⟨h0, b, _, hb, hh, by simp [hs], ?_, by simp [hn]⟩
  intro j e en hje hjn
  rw [Array.getElem?_push] at hje
  rw [hs] at hje
  split at hje
  · rename_i hj
    subst hj
    cases hje
    simp at hjn
    subst hjn
    exact ⟨rfl, hv.ext hx⟩
  · rename_i hj
    have hlt : j < ents.length := by
      have := (Array.getElem?_eq_some_iff.1 hje).1
      omega
    rw [List.getElem?_append_left hlt] at hjn
    exact ⟨(he j e en hje hjn).1, (he j e en hje hjn).2.ext hx⟩

/-- A map with another value for an entry. -/
theorem R.map_mod {E : Env} {Γ : Ctx} {σ : Store} {w : World} {i b j : Nat} {ents : List (Value × AV)} {born : List Nat} {clock : Nat} {l : Loc} {es : Array MapEntry} {k : Value} {a : AV} {f : MapEntry → MapEntry} (hr : R E Γ σ w) (hi : σ.get i = some (.map ents born clock)) (hl : Γ.get i = some l) (hb : l.blk = some b) (h0 : l.gen = 0)
    (hs : es.size = ents.length) (he : ∀ (k : Nat) (e : MapEntry) (en : Value × AV), es[k]? = some e → ents[k]? = some en → e.key = en.1 ∧ VR Γ w en.2 e.val) (hn : es.toList.map (·.born) = born)
    (hf : ∀ e, es[j]? = some e → (f e).key = k ∧ VR Γ w a (f e).val) (hfb : ∀ e, (f e).born = e.born) :
    ExtN Γ.next Γ w (Γ.set i l) (ChangeMaps.setBlock w b (.map (es.modify j f) clock)) ∧ R E (Γ.set i l) (σ.set i (.map (ents.set j (k, a)) born clock)) (ChangeMaps.setBlock w b (.map (es.modify j f) clock)) := by
  refine hr.put hi hl hb rfl rfl rfl rfl rfl rfl fun hx hh => ⟨h0, b, _, hb, hh, by simp [hs], ?_, ?_⟩
  · intro m e en hm hn'
    rw [Array.getElem?_modify] at hm
    rw [List.getElem?_set] at hn'
    split at hm
    · rename_i hjm
      subst hjm
      cases hq : es[j]? with
      | none => simp [hq] at hm
      | some e' =>
        simp [hq] at hm
        subst hm
        rw [if_pos rfl] at hn'
        split at hn'
        · cases hn'
          exact ⟨(hf e' hq).1, (hf e' hq).2.ext hx⟩
        · cases hn'
    · rename_i hjm
      rw [if_neg hjm] at hn'
      exact ⟨(he m e en hm hn').1, (he m e en hm hn').2.ext hx⟩
  · rw [← hn]
    refine List.ext_getElem? fun m => ?_
    simp only [List.getElem?_map, Array.getElem?_toList, Array.getElem?_modify]
    split
    · rename_i hjm
      subst hjm
      cases es[j]? with
      | none => rfl
      | some x => simp [hfb]
    · rfl

theorem aMapPut_ok {E : Env} {Γ : Ctx} {σ : Store} {w : World} {t : TypeId} {m k x : AV} {mv kv xv : Value} {K : AV → Store → Prop} (hr : R E Γ σ w) (hm : VR Γ w m mv) (hk : VR Γ w k kv) (hx : VR Γ w x xv) (h : aMapPut E t m k x σ K) : Up E Γ w K ((do Instr.mapUpdate t mv kv xv; pure .skip : Sem Next).run E.P w) := by
  unfold aMapPut at h
  split at h
  · rename_i kt et i kv' ht
    cases hk
    obtain ⟨hkv, h⟩ := h
    have hu := tk_map ht
    split at h
    · rename_i ents born clock hi
      obtain ⟨l, b, es, hl, hb, h0, rfl, hh, hs, he, hn⟩ := hr.map_at hm hi
      obtain ⟨hks, h⟩ := h
      obtain ⟨c1, c2, c3⟩ := run_find hs he hkv hks
      split at h
      · rename_i p hp
        obtain ⟨j, a⟩ := p
        rw [hp] at c3
        obtain ⟨e, e1, e2, e3, e4⟩ := c3
        obtain ⟨k1, k2⟩ := hr.map_mod (j := j) (k := kv) (a := x) (f := fun e => { e with key := kv, val := xv }) hi hl hb h0 hs he hn (fun e _ => ⟨rfl, hx⟩) fun _ => rfl
        refine Up.unit ?_ ⟨_, _, _, k1, k2, VR.undef_ _ _, h⟩
        simp [Instr.mapUpdate, run_underlying hu, Result.andThen, MapKept.run_getObj_map hh, c1, c2, e4, e1, e2, MapKept.run_setObj_map _ hh, ChangeMaps.setBlock]
      · rename_i hp
        rw [hp] at c3
        obtain ⟨k1, k2⟩ := hr.map_push (k := kv) hi hl hb h0 hs he hn hx
        refine Up.unit ?_ ⟨_, _, _, k1, k2, VR.undef_ _ _, h⟩
        simp [Instr.mapUpdate, run_underlying hu, Result.andThen, MapKept.run_getObj_map hh, c1, c3, MapKept.run_setObj_map _ hh, ChangeMaps.setBlock]
    · exact h.elim
  · exact h.elim

theorem set_self {α : Type} {l : List α} {j : Nat} {a : α} (h : l[j]? = some a) : l.set j a = l := by
  refine List.ext_getElem? fun m => ?_
  rw [List.getElem?_set]
  split
  · subst_vars
    have := (List.getElem?_eq_some_iff.1 h).1
    rw [if_pos this, h]
  · rfl

theorem aMapEntry_ok {E : Env} {Γ : Ctx} {σ : Store} {w : World} {t : TypeId} {m k : AV} {mv kv : Value} {K : AV → Store → Prop} (hr : R E Γ σ w) (hm : VR Γ w m mv) (hk : VR Γ w k kv) (h : aMapEntry E t m k σ K) : Up E Γ w K ((do pure (.value (← Instr.mapEntry t mv kv)) : Sem Next).run E.P w) := by
  unfold aMapEntry at h
  split at h
  · rename_i kt et i kv' ht
    cases hk
    obtain ⟨hkv, h⟩ := h
    have hu := tk_map ht
    split at h
    · rename_i ents born clock z hi hz
      have hzr := run_tzero hz
      obtain ⟨l, b, es, hl, hb, h0, rfl, hh, hs, he, hn⟩ := hr.map_at hm hi
      obtain ⟨hks, h⟩ := h
      obtain ⟨c1, c2, c3⟩ := run_find hs he hkv hks
      split at h
      · rename_i p hp
        obtain ⟨j, a⟩ := p
        rw [hp] at c3
        obtain ⟨e, e1, e2, e3, e4⟩ := c3
        have hg := aFind_get hp
        obtain ⟨k1, k2⟩ := hr.map_mod (j := j) (k := kv) (a := a) (f := fun e => { e with key := kv }) hi hl hb h0 hs he hn (fun e' he' => ⟨rfl, by rw [e1] at he'; cases he'; exact e3⟩) fun _ => rfl
        rw [set_self hg] at k2
        refine Up.value (v := .tuple #[e.val, .int .i64 e.born]) ?_ ⟨_, _, _, k1, k2, pair_vr (e3.ext k1) ?_, h⟩
        · simp [Instr.mapEntry, run_underlying hu, Result.andThen, MapKept.run_getObj_map hh, c1, c2, e4, e1, e2, MapKept.run_setObj_map _ hh, ChangeMaps.setBlock, goInt]
        · have : born.getD j 0 = e.born := by rw [← hn]; simp [List.getD, e1]
          rw [this]
          exact .c _ rfl
      · rename_i hp
        rw [hp] at c3
        obtain ⟨k1, k2⟩ := hr.map_push (k := kv) (v := z) hi hl hb h0 hs he hn (VR.ofV _ _ _)
        refine Up.value (v := .tuple #[z, .int .i64 clock]) ?_ ⟨_, _, _, k1, k2, pair_vr (VR.ofV _ _ _) (.c _ rfl), h⟩
        simp [Instr.mapEntry, run_underlying hu, Result.andThen, MapKept.run_getObj_map hh, c1, c3, hzr, MapKept.run_setObj_map _ hh, ChangeMaps.setBlock, goInt]
    · exact h.elim
  · exact h.elim

theorem aEntryStore_ok {E : Env} {Γ : Ctx} {σ : Store} {w : World} {t : TypeId} {m s x : AV} {mv sv xv : Value} {K : AV → Store → Prop} (hr : R E Γ σ w) (hm : VR Γ w m mv) (hsv : VR Γ w s sv) (hx : VR Γ w x xv) (h : aEntryStore m s x σ K) : Up E Γ w K ((do Instr.entryStore t mv sv xv; pure .skip : Sem Next).run E.P w) := by
  unfold aEntryStore at h
  split at h
  · rename_i i kk n
    cases hsv
    split at h
    · rename_i ents born clock hi
      obtain ⟨l, b, es, hl, hb, h0, rfl, hh, hs, he, hn⟩ := hr.map_at hm hi
      split at h
      · rename_i j hj
        have hlt : j < es.size := by
          have := (List.findIdx?_eq_some_iff_getElem.1 hj).1
          rw [← hn] at this
          simpa using this
        obtain ⟨k1, k2⟩ := hr.map_mod (j := j) (k := (ents[j]'(by omega)).1) (a := x) (f := fun e => { e with val := xv }) hi hl hb h0 hs he hn (fun e' he' => ⟨(he j e' _ he' (List.getElem?_eq_getElem (by omega))).1, hx⟩) fun _ => rfl
        have hmod : ents.modify j (fun e => (e.1, x)) = ents.set j ((ents[j]'(by omega)).1, x) := by
          refine List.ext_getElem? fun m => ?_
          rw [List.getElem?_modify, List.getElem?_set]
          split
          · rename_i hjm
            subst hjm
            rw [if_pos (by omega), List.getElem?_eq_getElem (by omega)]
            rfl
          · simp
        rw [← hmod] at k2
        refine Up.unit ?_ ⟨_, _, _, k1, k2, VR.undef_ _ _, h⟩
        have hf : es.findIdx? (fun e => (e.born : Int) == n) = some j := by
          rw [← hn] at hj
          rw [List.findIdx?_map] at hj
          rw [← hj, ← List.findIdx?_toArray]
          rfl
        simp [Instr.entryStore, Result.andThen, MapKept.run_getObj_map hh, hf, MapKept.run_setObj_map _ hh, ChangeMaps.setBlock, asInt, asIntOf]
      · exact h.elim
    · exact h.elim
  · exact h.elim

theorem aMapDel_ok {E : Env} {Γ : Ctx} {σ : Store} {w : World} {t ty : TypeId} {ts : Array TypeId} (hts : ts[0]? = some t) {m k : AV} {mv kv : Value} {K : AV → Store → Prop} (hr : R E Γ σ w) (hm : VR Γ w m mv) (hk : VR Γ w k kv) (h : aMapDel E t m k σ K) : Up E Γ w K ((do pure (.value (← Builtin.delete_ ts ty #[mv, kv])) : Sem Next).run E.P w) := by
  unfold aMapDel at h
  split at h
  · rename_i kt et i kv' ht
    cases hk
    obtain ⟨hkv, h⟩ := h
    have hu := tk_map ht
    split at h
    · rename_i ents born clock hi
      obtain ⟨l, b, es, hl, hb, h0, rfl, hh, hs, he, hn⟩ := hr.map_at hm hi
      obtain ⟨hks, h⟩ := h
      obtain ⟨c1, c2, c3⟩ := run_find hs he hkv hks
      split at h
      · rename_i p hp
        obtain ⟨j, a⟩ := p
        rw [hp] at c3
        obtain ⟨e, e1, e2, e3, e4⟩ := c3
        have hjs : j < es.size := (Array.getElem?_eq_some_iff.1 e1).1
        obtain ⟨k1, k2⟩ := hr.put (w' := ChangeMaps.setBlock w b (.map (es.eraseIdxIfInBounds j) clock)) (o' := .map (ents.eraseIdx j) (born.eraseIdx j) clock) hi hl hb rfl rfl rfl rfl rfl rfl fun hx hh => ⟨h0, b, _, hb, hh, by simp [Array.eraseIdxIfInBounds, List.length_eraseIdx, hjs, ← hs], by
          intro q e' en hq1 hq2
          have : (es.eraseIdxIfInBounds j).toList = es.toList.eraseIdx j := by simp [Array.eraseIdxIfInBounds, hjs]
          rw [← Array.getElem?_toList, this, List.getElem?_eraseIdx] at hq1
          rw [List.getElem?_eraseIdx] at hq2
          split at hq1
          · rename_i hqj
            rw [if_pos hqj] at hq2
            rw [Array.getElem?_toList] at hq1
            exact ⟨(he _ e' en hq1 hq2).1, (he _ e' en hq1 hq2).2.ext hx⟩
          · rename_i hqj
            rw [if_neg hqj] at hq2
            rw [Array.getElem?_toList] at hq1
            exact ⟨(he _ e' en hq1 hq2).1, (he _ e' en hq1 hq2).2.ext hx⟩, by
          have : (es.eraseIdxIfInBounds j).toList = es.toList.eraseIdx j := by simp [Array.eraseIdxIfInBounds, hjs]
          rw [this, ← hn]
          refine List.ext_getElem? fun m => ?_
          simp only [List.getElem?_map, List.getElem?_eraseIdx]
          split <;> simp⟩
        refine Up.value (v := .tuple #[]) ?_ ⟨_, _, _, k1, k2, VR.undef_ _ _, h⟩
        simp [Builtin.delete_, hts, run_underlying hu, Result.andThen, MapKept.run_getObj_map hh, c1, e4, MapKept.run_setObj_map _ hh, ChangeMaps.setBlock]
      · rename_i hp
        rw [hp] at c3
        obtain ⟨k1, k2⟩ := hr.put (w' := ChangeMaps.setBlock w b (.map es clock)) (o' := .map ents born clock) hi hl hb rfl rfl rfl rfl rfl rfl fun hx hh => ⟨h0, b, es, hb, hh, hs, fun q e' en hq1 hq2 => ⟨(he _ e' en hq1 hq2).1, (he _ e' en hq1 hq2).2.ext hx⟩, hn⟩
        refine Up.value (v := .tuple #[]) ?_ ⟨_, _, _, k1, k2, VR.undef_ _ _, h⟩
        simp [Builtin.delete_, hts, run_underlying hu, Result.andThen, MapKept.run_getObj_map hh, c1, c3, MapKept.run_setObj_map _ hh, ChangeMaps.setBlock]
    · exact h.elim
  · exact h.elim

theorem aAssert_ok {E : Env} {Γ : Ctx} {σ : Store} {w : World} {xt t : TypeId} {x : AV} {xv : Value} {ok : Bool} {K : AV → Store → Prop} (hr : R E Γ σ w) (hx : VR Γ w x xv) (h : aAssert E x t ok fun a => K a σ) : Up E Γ w K ((do pure (.value (← Instr.typeAssert xv xt t ok)) : Sem Next).run E.P w) := by
  obtain ⟨h1, h2, h⟩ := h
  have hu : ∃ d, E.P.underlying t = some d ∧ ∀ ms, d ≠ .interface ms := by
    unfold tk at h1 h2
    cases hu : E.P.underlying t with
    | none => simp [hu] at h2
    | some d => exact ⟨d, rfl, fun ms e => by subst e; simp [hu] at h1⟩
  obtain ⟨d, hu, hd⟩ := hu
  split at h
  · rename_i u v
    cases hx with
    | ifc _ _ vv hv =>
      split at h
      · rename_i he
        subst he
        cases ok with
        | true =>
          refine Up.value (v := .tuple #[vv, .bool true]) (w' := w) ?_ (Res.same hr (pair_vr hv (.c _ rfl)) h)
          cases d <;> first | exact absurd rfl (hd _) | (simp [Instr.typeAssert, run_underlying hu, Result.andThen]; done)
        | false =>
          refine Up.value (v := vv) (w' := w) ?_ (Res.same hr hv h)
          cases d <;> first | exact absurd rfl (hd _) | (simp [Instr.typeAssert, run_underlying hu, Result.andThen]; done)
      · rename_i he
        obtain ⟨rfl, h⟩ := h
        split at h
        · rename_i z hz
          refine Up.value (v := .tuple #[z, .bool false]) (w' := w) ?_ (Res.same hr (pair_vr (VR.ofV _ _ _) (.c _ rfl)) h)
          cases d <;> first | exact absurd rfl (hd _) | (simp [Instr.typeAssert, run_underlying hu, Result.andThen, he, run_tzero hz]; done)
        · exact h.elim
  · cases hx
    obtain ⟨rfl, h⟩ := h
    split at h
    · rename_i z hz
      refine Up.value (v := .tuple #[z, .bool false]) (w' := w) ?_ (Res.same hr (pair_vr (VR.ofV _ _ _) (.c _ rfl)) h)
      cases d <;> first | exact absurd rfl (hd _) | (simp [Instr.typeAssert, run_underlying hu, Result.andThen, run_tzero hz]; done)
    · exact h.elim
  · exact h.elim

theorem aMapPut_det {E : Env} {t : TypeId} {m k x : AV} {σ : Store} {K : AV → Store → Prop} (h : aMapPut E t m k x σ K) : ∃ a σ', aMapPut E t m k x σ (fun x y => x = a ∧ y = σ') ∧ K a σ' := by
  simp only [aMapPut] at h ⊢
  split at h
  · rename_i ht
    try simp only [ht]
    obtain ⟨h1, h⟩ := h
    split at h
    · rename_i hi
      try simp only [hi]
      obtain ⟨h2, h⟩ := h
      split at h
      · rename_i hp
        try simp only [hp]
        exact ⟨_, _, ⟨h1, h2, rfl, rfl⟩, h⟩
      · rename_i hp
        try simp only [hp]
        exact ⟨_, _, ⟨h1, h2, rfl, rfl⟩, h⟩
    · exact h.elim
  · exact h.elim
theorem aMapDel_det {E : Env} {t : TypeId} {m k : AV} {σ : Store} {K : AV → Store → Prop} (h : aMapDel E t m k σ K) : ∃ a σ', aMapDel E t m k σ (fun x y => x = a ∧ y = σ') ∧ K a σ' := by
  simp only [aMapDel] at h ⊢
  split at h
  · rename_i ht
    try simp only [ht]
    obtain ⟨h1, h⟩ := h
    split at h
    · rename_i hi
      try simp only [hi]
      obtain ⟨h2, h⟩ := h
      split at h
      · rename_i hp
        try simp only [hp]
        exact ⟨_, _, ⟨h1, h2, rfl, rfl⟩, h⟩
      · rename_i hp
        try simp only [hp]
        exact ⟨_, _, ⟨h1, h2, rfl, rfl⟩, h⟩
    · exact h.elim
  · exact h.elim

/-! ### A slice of an array: the array is dropped from the store and written no more -/
def Ctx.drop (Γ : Ctx) (i : Nat) : Ctx := ⟨fun j => if j = i then none else Γ.get j, Γ.next, Γ.base⟩
def Store.drop (σ : Store) (i : Nat) : Store := ⟨fun j => if j = i then none else σ.get j, σ.next⟩
theorem Ctx.drop_some {Γ : Ctx} {i j : Nat} {l : Loc} (h : (Γ.drop i).get j = some l) : Γ.get j = some l ∧ j ≠ i := by
  unfold Ctx.drop at h
  simp only at h
  split at h
  · cases h
  · rename_i e; exact ⟨h, e⟩
theorem Ctx.drop_ext {Γ : Ctx} {w : World} (i : Nat) : ExtN Γ.next Γ w (Γ.drop i) w :=
  ⟨rfl, rfl, rfl, Nat.le_refl _, fun b _ ho => ⟨.inl rfl, fun ⟨j, l, hj, hb⟩ => ho ⟨j, l, (Ctx.drop_some hj).1, hb⟩⟩, fun b k _ hf => ⟨fun _ hv => hv, fun j l hj hb => hf j l (Ctx.drop_some hj).1 hb⟩, fun j l _ hj => ⟨l, (Ctx.drop_some hj).1, Nat.le_refl _, fun _ => rfl⟩, Nat.le_refl _, Nat.le_refl _, rfl⟩
theorem ObjRel.ext {P : Program} {Γ Γ' : Ctx} {w w' : World} {o : AObj} {l : Loc} (h : ObjRel P Γ w o l) (hx : ExtN Γ.next Γ w Γ' w') (hsame : ∀ b, l.blk = some b → w'.heap[b]? = w.heap[b]?) : ObjRel P Γ' w' o l := by
  cases o with
  | arr T g es =>
    simp only [ObjRel] at h ⊢
    obtain ⟨h1, h2, h3, h4, h5, h6⟩ := h
    refine ⟨h1, h2, h3, h4, h5, ?_⟩
    cases hb : l.blk with
    | none => simp only [hb] at h6 ⊢; exact h6
    | some b =>
      simp only [hb] at h6 ⊢
      obtain ⟨xs, fr, q1, q2, q3, q4⟩ := h6
      refine ⟨xs, fr, (hsame b hb).trans q1, q2, q3, fun k e j x hk hj => ?_⟩
      obtain ⟨u, u1, u2, u3⟩ := q4 k e j x hk hj
      exact ⟨u, u1, u2, u3.ext hx⟩
  | map ents born clock =>
    obtain ⟨h0, b, es, q1, q2, q3, q4, q5⟩ := h
    exact ⟨h0, b, es, q1, (hsame b q1).trans q2, q3, fun k e en hk hen => ⟨(q4 k e en hk hen).1, (q4 k e en hk hen).2.ext hx⟩, q5⟩
  | lp b L vs =>
    obtain ⟨h0, q1, q2, q3, q4⟩ := h
    exact ⟨h0, q1, (hsame b q1).trans q2, q3, fun t a v h1 h2 => (q4 t a v h1 h2).ext hx⟩
  | it o =>
    obtain ⟨h0, b, q1, q2, q3⟩ := h
    exact ⟨h0, b, q1, (hsame b q1).trans q2, q3⟩
  | mi m since seen last =>
    obtain ⟨h0, b, bm, q1, q2, q3⟩ := h
    exact ⟨h0, b, bm, q1, (hsame b q1).trans q2, q3.ext hx⟩
  | log T m =>
    simp only [ObjRel] at h ⊢
    obtain ⟨h1, h2, h3, h4, h5⟩ := h
    refine ⟨h1, h2, h3, h4, ?_⟩
    cases hb : l.blk with
    | none => simp only [hb] at h5 ⊢; exact h5
    | some b =>
      simp only [hb] at h5 ⊢
      obtain ⟨xs, fr, q1, q2⟩ := h5
      exact ⟨xs, fr, (hsame b hb).trans q1, q2⟩
theorem R.drop {E : Env} {Γ : Ctx} {σ : Store} {w : World} (hr : R E Γ σ w) (i : Nat) : R E (Γ.drop i) (σ.drop i) w := by
  refine ⟨hr.next, fun j => ?_, fun j hj => ?_, fun j k lj lk b hj hk => hr.inj j k lj lk b (Ctx.drop_some hj).1 (Ctx.drop_some hk).1, fun j o l ho hl => ?_, fun g cs hg => (hr.glob g cs hg).ext (Ctx.drop_ext i), hr.gbel, hr.base, fun j o l ho hl => ?_⟩
  · show (if j = i then none else Γ.get j).isSome = (if j = i then none else σ.get j).isSome
    split
    · rfl
    · exact hr.dom j
  · show (if j = i then none else σ.get j) = none
    split
    · rfl
    · exact hr.bnd j hj
  · obtain ⟨hl', hne⟩ := Ctx.drop_some hl
    have ho : (if j = i then none else σ.get j) = some o := ho
    rw [if_neg hne] at ho
    exact (hr.objs j o l ho hl').ext (Ctx.drop_ext i) fun _ _ => rfl
  · obtain ⟨hl', hne⟩ := Ctx.drop_some hl
    have ho : (if j = i then none else σ.get j) = some o := ho
    rw [if_neg hne] at ho
    exact hr.lims j o l ho hl'
/-- The elements of an array. -/
def chunks (sz n : Nat) (ag : Bool) (cs : List AV) : List AV := (List.range n).map fun k => if ag = true then .agg ((cs.drop (k * sz)).take sz) else cs.getD (k * sz) .junk
theorem one_cells {Γ : Ctx} {w : World} {x : AV} {u : Value} (h : VR Γ w x u) (hu : u.oneCell' = true) : x.cells = [x] := by
  cases h <;> first | rfl | simp [Value.oneCell'] at hu
theorem chunks_get {sz n k : Nat} {ag : Bool} {cs : List AV} {y : AV} (h : (chunks sz n ag cs)[k]? = some y) : k < n ∧ y = if ag = true then .agg ((cs.drop (k * sz)).take sz) else cs.getD (k * sz) .junk := by
  unfold chunks at h
  rw [List.getElem?_map] at h
  rcases Nat.lt_or_ge k n with hk | hk
  · rw [List.getElem?_range hk] at h
    cases h
    exact ⟨hk, rfl⟩
  · rw [List.getElem?_eq_none (by simpa using hk)] at h
    cases h
theorem ps_chunks {Γ : Ctx} {w : World} {b o sz n cap : Nat} {ag : Bool} {cs : List AV} (hc : CellsAt Γ w b o cs) (hf : ∀ j, j < cs.length → Γ.fixd b (o + j)) (hb : b < w.heap.size) (hn : n * sz ≤ cs.length) (hsz : sz ≠ 0) (hag : ag = false → sz = 1)
    {l h : Nat} (hl : l ≤ h) (hh : h ≤ n) (hcap : h - l ≤ cap) : VR Γ w (.ps (((chunks sz n ag cs).take h).drop l)) (.slice (some (if cap = 0 then ⟨b, o, none⟩ else ⟨b, o + l * sz, none⟩)) (h - l) cap) := by
  obtain ⟨us, a1, a2, a3, a4⟩ := hc.list
  have hlen : (((chunks sz n ag cs).take h).drop l).length = h - l := by simp [chunks]; omega
  have key : ∀ (k : Nat) (e : AV) (j : Nat) (x : AV), (((chunks sz n ag cs).take h).drop l)[k]? = some e → e.cells[j]? = some x → e.cells.length = sz ∧ j < sz ∧ (l + k) * sz + j < cs.length ∧ cs[(l + k) * sz + j]? = some x := by
    intro k e j x hk hj
    rw [List.getElem?_drop, List.getElem?_take] at hk
    split at hk
    · obtain ⟨h1, rfl⟩ := chunks_get hk
      have hlt : (l + k) * sz + sz ≤ cs.length := by
        have : (l + k + 1) * sz ≤ n * sz := Nat.mul_le_mul_right _ (by omega)
        rw [Nat.add_mul (l + k) 1] at this
        omega
      cases ag with
      | true =>
        rw [if_pos rfl] at hj ⊢
        have hj' : ((cs.drop ((l + k) * sz)).take sz)[j]? = some x := hj
        have hc2 : (AV.agg ((cs.drop ((l + k) * sz)).take sz)).cells.length = sz := by
          show ((cs.drop ((l + k) * sz)).take sz).length = sz
          simp; omega
        rw [List.getElem?_take] at hj'
        split at hj'
        · rename_i hjs
          rw [List.getElem?_drop] at hj'
          exact ⟨hc2, hjs, by omega, hj'⟩
        · cases hj'
      | false =>
        have h1' := hag rfl
        subst h1'
        have hlt' : (l + k) * 1 < cs.length := by omega
        have hg : cs[(l + k) * 1]? = some (cs.getD ((l + k) * 1) .junk) := by rw [List.getD, List.getElem?_eq_getElem hlt']; rfl
        rw [if_neg (by simp)] at hj ⊢
        obtain ⟨u, _, u2, u3⟩ := hc _ _ hg
        have hone := one_cells u3 u2
        rw [hone] at hj ⊢
        cases j with
        | zero => simp at hj; subst hj; exact ⟨rfl, by omega, by omega, by simpa using hg⟩
        | succ j => simp at hj
    · cases hk
  have e0 : h - l = (((chunks sz n ag cs).take h).drop l).length := hlen.symm
  have hu : ∀ q x, cs[q]? = some x → us[q]? = some (us.getD q undef) := fun q x hq => by
    have : q < us.length := by rw [a1]; exact (List.getElem?_eq_some_iff.1 hq).1
    rw [List.getD, List.getElem?_eq_getElem this]; rfl
  rw [e0]
  refine .ps _ _ cap b (o + l * sz) (fun k j => us.getD ((l + k) * sz + j) undef) (by omega) (fun hne => ?_) ?_ ?_ ?_
  · have : cap ≠ 0 := by
      intro hz
      exact hne (List.eq_nil_of_length_eq_zero (by omega))
    rw [if_neg this]
    exact ⟨rfl, hb⟩
  · intro k e j x hk hj
    obtain ⟨h1, h2, h3, h4⟩ := key k e j x hk hj
    have e1 : o + l * sz + k * e.cells.length + j = o + ((l + k) * sz + j) := by rw [h1, Nat.add_mul]; omega
    rw [e1]
    exact ⟨a2 _ _ (hu _ _ h4), hf _ h3⟩
  · intro k e j x hk hj
    obtain ⟨h1, h2, h3, h4⟩ := key k e j x hk hj
    exact a3 _ (List.mem_of_getElem? (hu _ _ h4))
  · intro k e j x hk hj
    obtain ⟨h1, h2, h3, h4⟩ := key k e j x hk hj
    exact a4 _ _ _ h4 (hu _ _ h4)
def TK.isArr : TK → Bool
  | .arr .. => true
  | _ => false
def aSliceA (E : Env) (t : TypeId) (x : AV) (lo hi : Option AV) (σ : Store) (K : AV → Store → Prop) : Prop :=
  match tk E.P t, ixOr lo 0 with
  | .arr n e, some l => (match ixOr hi n with
    | some h => 0 ≤ l ∧ l ≤ h ∧ h ≤ n ∧ tsz E.P e ≠ 0 ∧ ((tk E.P e).agg = false → tsz E.P e = 1) ∧ (match x with
      | .pp cs => n * tsz E.P e ≤ cs.length ∧ K (.ps (((chunks (tsz E.P e) n (tk E.P e).agg cs).take h.toNat).drop l.toNat)) σ
      | .rp i g k off => (match σ.get i with
        | some (.arr _ g' es) => g = g' ∧ (match es[k]? with
          | some a => n * tsz E.P e ≤ (a.cells.drop off).length ∧ K (.ps (((chunks (tsz E.P e) n (tk E.P e).agg (a.cells.drop off)).take h.toNat).drop l.toNat)) (σ.drop i)
          | none => False)
        | _ => False)
      | _ => False)
    | none => False)
  | _, _ => False
theorem aSliceA_ok {E : Env} {Γ : Ctx} {σ : Store} {w : World} {t : TypeId} {x : AV} {xv : Value} {lo hi : Option AV} {lov hiv : Option Value} {K : AV → Store → Prop} (hr : R E Γ σ w) (hx : VR Γ w x xv)
    (hlo : IxRel Γ w lo lov) (hhi : IxRel Γ w hi hiv) (h : aSliceA E t x lo hi σ K) : Up E Γ w K ((do pure (.value (← Instr.sliceAt t xv lov hiv none)) : Sem Next).run E.P w) := by
  unfold aSliceA at h
  split at h
  · rename_i n e l ht hl
    have hu := tk_arr ht
    split at h
    · rename_i hh' hh
      obtain ⟨h0, h1, h2, hnz, hag, h⟩ := h
      have hb := run_bounds (P := E.P) (cap := n) false hlo hhi hl hh h0 h1 (by omega)
      have hs := run_tsz hnz w
      have run : ∀ b o, (Instr.sliceAt t (.pointer (some ⟨b, o, none⟩)) lov hiv none).run E.P w = .ok (.slice (some (if n - l.toNat = 0 then ⟨b, o, none⟩ else ⟨b, o + l.toNat * tsz E.P e, none⟩)) (hh'.toNat - l.toNat) (n - l.toNat)) w := by
        intro b o
        by_cases hc : n = l.toNat
        · have hz : n - l.toNat = 0 := by omega
          simp [Instr.sliceAt, Instr.sureAddr, run_underlying hu, hb, hs, eq_true hc, hz]
        · have : ¬ n - l.toNat = 0 := by omega
          simp [Instr.sliceAt, Instr.sureAddr, run_underlying hu, hb, hs, hc, this, addr_add]
      split at h
      · obtain ⟨hn, h⟩ := h
        obtain ⟨b, o, rfl, f1, f2, f3⟩ := hx.pp_cells
        refine Up.value (run b o) (Res.same hr ?_ h)
        exact ps_chunks f3 f1 f2 hn hnz hag (by omega) (by omega) (by omega)
      · rename_i i g k off
        split at h
        · rename_i T g' es hi
          obtain ⟨rfl, h⟩ := h
          split at h
          · rename_i a hk
            obtain ⟨hn, h⟩ := h
            obtain ⟨lc, b, k1, k2, k3, rfl, hc⟩ := hr.rp_cells hx hi hk
            have hlt := hr.blk_lt ⟨i, lc, k1, k2⟩
            have hno : ¬ (Γ.drop i).owns b := by
              rintro ⟨j, lj, hj, hjb⟩
              obtain ⟨hj', hne⟩ := Ctx.drop_some hj
              exact hne (hr.inj j i lj lc b hj' k1 hjb k2)
            refine Up.value (run b (k * lc.sz + off)) ⟨Γ.drop i, _, σ.drop i, Ctx.drop_ext i, hr.drop i, ?_, h⟩
            refine ps_chunks (fun j x hj => ?_) (fun j _ => Ctx.fixd_of hno) hlt hn hnz hag (by omega) (by omega) (by omega)
            obtain ⟨u, u1, u2, u3⟩ := hc j x hj
            exact ⟨u, u1, u2, u3.ext (Ctx.drop_ext i)⟩
          · exact h.elim
        · exact h.elim
      · exact h.elim
    · exact h.elim
  · exact h.elim
theorem aSliceA_det {E : Env} {t : TypeId} {x : AV} {lo hi : Option AV} {σ : Store} {K : AV → Store → Prop} (h : aSliceA E t x lo hi σ K) : ∃ a σ', aSliceA E t x lo hi σ (fun x y => x = a ∧ y = σ') ∧ K a σ' := by
  unfold aSliceA at h ⊢
  split at h
  · split at h
    · rename_i hh
      try simp only [hh]
      obtain ⟨h0, h1, h2, hnz, hag, h⟩ := h
      split at h
      · exact ⟨_, _, ⟨h0, h1, h2, hnz, hag, h.1, rfl, rfl⟩, h.2⟩
      · split at h
        · rename_i hi
          try simp only [hi]
          obtain ⟨hg, h⟩ := h
          split at h
          · rename_i hk
            try simp only [hk]
            exact ⟨_, _, ⟨h0, h1, h2, hnz, hag, hg, h.1, rfl, rfl⟩, h.2⟩
          · exact h.elim
        · exact h.elim
      · exact h.elim
    · exact h.elim
  · exact h.elim

/-! ### The conversion of a growing row of bytes to its own type -/
theorem lg_conv {E : Env} {Γ : Ctx} {σ : Store} {w : World} {t e : TypeId} {i : Nat} {es : List AV} {xv : Value} {K : AV → Store → Prop} (hr : R E Γ σ w) (hx0 : VR Γ w (.lg i es) xv) (hi : σ.get i = some (.log e es.length)) (hne : es ≠ []) (hsz1 : tsz E.P e = 1)
    (ht : E.P.underlying t = some (.slice e)) (he : E.P.underlying e = some (.int .u8)) (h : K (.lg i es) σ) : Up E Γ w K ((do pure (.value (← convert t t xv)) : Sem Next).run E.P w) := by
  obtain ⟨l, hl, ho, hlt⟩ := hr.loc hi
  have hx1 := hx0
  cases hx0 with
  | lg _ _ _ g1 g2 g3 =>
  cases g2 with
  | rs _ _ _ _ a cap hin hlc hat =>
  simp only [ObjRel] at ho
  obtain ⟨o1, o2, o3, o4, o5⟩ := ho
  have hz : l.sz = 1 := by rw [o2]; exact hsz1
  cases hb : l.blk with
  | none =>
    simp only [hb] at o5
    exact absurd (List.eq_nil_of_length_eq_zero o5.1) hne
  | some b =>
    simp only [hb] at o5
    obtain ⟨xs, fr, q1, q2, q3⟩ := o5
    obtain ⟨_, hat⟩ := hat l hl
    have hrs := hat o1
    unfold Loc.rsAt at hrs
    rw [hb] at hrs
    have ha : a = some ⟨b, 0, none⟩ := hrs.2.2 rfl
    subst ha
    have hblt := hr.blk_lt ⟨i, l, hl, hb⟩
    have hsh : w.shape? b = some (e, xs.size) := by unfold World.shape?; rw [q1]
    have hrun : (convert t t (.slice (some ⟨b, 0, none⟩) es.length cap)).run E.P w = .ok (.slice (some ⟨b, 0, none⟩) es.length cap) (w.freeze ⟨b, xs.size, none⟩ 1) := by
      simp [convert, run_underlying ht, run_underlying he, markStringish, hsh]
    have hheap : ∀ k, (w.freeze ⟨b, xs.size, none⟩ 1).heap[k]? = if k = b then some (.cells xs e (if fr.1 == fr.2 then (xs.size, xs.size + 1) else (min fr.1 xs.size, max fr.2 (xs.size + 1)))) else w.heap[k]? := by
      intro k
      unfold World.freeze
      rw [if_neg (by decide)]
      simp only [Array.getElem?_modify]
      split
      · rename_i e; subst e; rw [q1]; simp
      · rename_i e; rw [if_neg (fun e' => e e'.symm)]
    have hsz : (w.freeze ⟨b, xs.size, none⟩ 1).heap.size = w.heap.size := by
      unfold World.freeze
      rw [if_neg (by decide)]
      simp
    have hx : ExtN Γ.next Γ w Γ (w.freeze ⟨b, xs.size, none⟩ 1) := by
      refine ⟨by unfold World.freeze; rw [if_neg (by decide)], by unfold World.freeze; rw [if_neg (by decide)], by unfold World.freeze; rw [if_neg (by decide)], Nat.le_of_eq hsz.symm, fun k hk ho => ⟨?_, ho⟩, fun k m hk hf => ⟨fun v hv => ?_, hf⟩,
        fun i l' _ hi => ⟨l', hi, Nat.le_refl _, fun _ => rfl⟩, Nat.le_refl _, Nat.le_refl _, rfl⟩
      · rw [hheap k, if_neg (by rintro rfl; exact ho ⟨i, l, hl, hb⟩)]
        exact .inl rfl
      · have hh := hheap k
        by_cases e0 : k = b
        · subst e0
          rw [if_pos rfl] at hh
          simp only [World.cell?, q1] at hv
          simp only [World.cell?, hh]
          exact hv
        · rw [if_neg e0] at hh
          simp only [World.cell?] at hv
          simp only [World.cell?, hh]
          exact hv
    have hR : R E Γ σ (w.freeze ⟨b, xs.size, none⟩ 1) := by
      refine ⟨hr.next, hr.dom, hr.bnd, hr.inj, fun j oj lj hoj hlj => ?_, fun g cs hg => (hr.glob g cs hg).ext hx, hr.gbel, by rw [hsz]; exact hr.base, hr.lims⟩
      by_cases hj : j = i
      · subst hj
        rw [hi] at hoj
        cases hoj
        rw [hl] at hlj
        cases hlj
        simp only [ObjRel]
        refine ⟨o1, o2, o3, o4, ?_⟩
        simp only [hb]
        have hh := hheap b
        rw [if_pos rfl] at hh
        refine ⟨xs, _, hh, .inr ⟨?_, hz⟩, q3⟩
        split
        · exact Nat.le_refl _
        · rename_i hne'
          rcases q2 with q2 | q2
          · rw [q2] at hne'; simp at hne'
          · show xs.size ≤ min fr.1 xs.size
            omega
      · exact (hr.objs j oj lj hoj hlj).ext hx fun b' hb' => by
          rw [hheap b', if_neg]
          rintro rfl
          exact hj (hr.inj j i lj l b' hlj hl hb' hb)
    exact Up.value hrun ⟨Γ, _, σ, hx, hR, hx1.ext hx, h⟩
def aConv2 (E : Env) (own : Nat) (s d : TypeId) (x : AV) (σ : Store) (K : AV → Store → Prop) : Prop :=
  match x with
  | .lg i es => if own = 2 then s = d ∧ (match tk E.P d with
      | .slc e => tk E.P e = .int .u8 ∧ tsz E.P e = 1 ∧ es ≠ [] ∧ σ.get i = some (.log e es.length) ∧ K (.lg i es) σ
      | _ => False) else aConv E own s d (AV.lg i es).rd σ K
  | x => aConv E own s d x.rd σ K
theorem aConv2_ok {E : Env} {Γ : Ctx} {σ : Store} {w : World} {own : Nat} {s d : TypeId} {x : AV} {xv : Value} {K : AV → Store → Prop} (hr : R E Γ σ w) (hx : VR Γ w x xv) (h : aConv2 E own s d x σ K) : Up E Γ w K ((do pure (.value (← convert s d xv)) : Sem Next).run E.P w) := by
  unfold aConv2 at h
  split at h
  · split at h
    · obtain ⟨rfl, h⟩ := h
      split at h
      · rename_i e hd
        obtain ⟨h1, h2, h3, h4, h5⟩ := h
        exact lg_conv hr hx h4 h3 h2 (tk_slc hd) (tk_int h1) h5
      · exact h.elim
    · exact aConv_ok hr hx.rd h
  · exact aConv_ok hr hx.rd h

/-- The operations on maps, iterators and interface values. -/
def opX (E : Env) (op : Op) (args : List AV) (σ : Store) (K : AV → Store → Prop) : Prop :=
  match op, args with
  | .range t _, [x] => aRange E t x σ K
  | .next _ str, [x] => aNext x str σ K
  | .lookup t _ _ ok, [x, k] => aLook E t x k ok σ K
  | .mapUpdate t _ _ _, [m, k, x] => aMapPut E t m k x σ K
  | .insert t _ _ _, [m, k, x] => aMapPut E t m k x σ K
  | .makeMap t none, [] => K (.mp σ.next) (σ.alloc (.map [] [] 0))
  | .makeMap t (some _), [.c (.int _ _)] => (tk E.P t).isMap = true ∧ K (.mp σ.next) (σ.alloc (.map [] [] 0))
  | .mapEntry t _ _, [m, k] => aMapEntry E t m k σ K
  | .entryStore _ _ _ _, [m, s, x] => aEntryStore m s x σ K
  | .typeAssert _ _ t ok, [x] => aAssert E x t ok fun a => K a σ
  | .panic _, [.ifc t v] => E.pan (.ifc t v) σ
  | _, _ => False
theorem opX_ok {E : Env} {Γ : Ctx} {σ : Store} {w : World} {op : Op} {dst : Option Tmp} {ty : TypeId} {pos : String} {after : Array Edge} {guard : Option (Nat × Bool)} {f : Nat → AV} {ρ : Operand → Value} {K : AV → Store → Prop} (hr : R E Γ σ w)
    (hv : VRs Γ w (op.operands.toList.map (aeval E.G f)) (op.operands.toList.map ρ)) (h : opX E op (op.operands.toList.map (aeval E.G f)) σ K) : Up E Γ w K ((execOp ρ ⟨dst, op, ty, pos, after, guard⟩).run E.P w) := by
  obtain ⟨hlen, hv⟩ := hv
  cases op <;> first | exact h.elim | skip
  case range t x => exact aRange_ok hr (hv 0 _ _ rfl rfl) h
  case next x str => exact aNext_ok hr (hv 0 _ _ rfl rfl) h
  case lookup t x k ok => exact aLook_ok hr (hv 0 _ _ rfl rfl) (hv 1 _ _ rfl rfl) h
  case mapUpdate t m k x => exact aMapPut_ok hr (hv 0 _ _ rfl rfl) (hv 1 _ _ rfl rfl) (hv 2 _ _ rfl rfl) h
  case insert t m k x => exact aMapPut_ok hr (hv 0 _ _ rfl rfl) (hv 1 _ _ rfl rfl) (hv 2 _ _ rfl rfl) h
  case mapEntry t m k => exact aMapEntry_ok hr (hv 0 _ _ rfl rfl) (hv 1 _ _ rfl rfl) h
  case entryStore t m s x => exact aEntryStore_ok hr (hv 0 _ _ rfl rfl) (hv 1 _ _ rfl rfl) (hv 2 _ _ rfl rfl) h
  case typeAssert x xt t ok => exact aAssert_ok hr (hv 0 _ _ rfl rfl) h
  case panic x =>
    have hx := hv 0 _ _ rfl rfl
    have h' : ∃ t v, aeval E.G f x = .ifc t v ∧ E.pan (.ifc t v) σ := by
      have e : (Op.panic x).operands.toList = [x] := rfl
      rw [e] at h
      simp only [List.map_cons, List.map_nil] at h
      generalize aeval E.G f x = a at h ⊢
      cases a <;> first | exact h.elim | exact ⟨_, _, rfl, h⟩
    obtain ⟨t, v, e, h⟩ := h'
    rw [e] at hx
    cases hxx : ρ x <;> rw [hxx] at hx <;> try (cases hx; done)
    rename_i t' v'
    have hrun : (execOp ρ ⟨dst, .panic x, ty, pos, after, guard⟩).run E.P w = .halt (.panic (.iface t' v')) w := by
      simp [execOp, Instr.panic, hxx, goPanic]
    rw [hrun]
    have ht : t = t' := by cases hx; rfl
    subst ht
    exact Res.same hr hx h
  case makeMap t r =>
    obtain ⟨k1, k2⟩ := hr.make (o' := .map [] [] 0) (ob := .map #[] 0) rfl fun hx hh => ⟨rfl, _, #[], rfl, hh, rfl, by simp, rfl⟩
    cases r with
    | none =>
      refine Up.value (v := .map (some w.heap.size)) (w' := w.alloc (.map #[] 0)) ?_ ⟨_, _, _, k1, k2, (VR.made hr _).2, h⟩
      simp [Instr.makeMap, Result.andThen]
    | some y =>
      have hy := hv 0 _ _ rfl rfl
      have h' : ∃ k n, aeval E.G f y = .c (.int k n) ∧ (tk E.P t).isMap = true ∧ K (.mp σ.next) (σ.alloc (.map [] [] 0)) := by
        have e : (Op.makeMap t (some y)).operands.toList = [y] := rfl
        rw [e] at h
        simp only [List.map_cons, List.map_nil] at h
        generalize aeval E.G f y = a at h ⊢
        cases a <;> first | exact h.elim | skip
        rename_i v
        cases v <;> first | exact h.elim | skip
        exact ⟨_, _, rfl, h⟩
      obtain ⟨k, n, e, ht, h⟩ := h'
      rw [e] at hy
      have hy' : ρ y = .int k n := by generalize ρ y = v at hy; cases hy; rfl
      obtain ⟨kt, et, hu⟩ := isMap_some ht
      refine Up.value (v := .map (some w.heap.size)) (w' := w.alloc (.map #[] 0)) ?_ ⟨_, _, _, k1, k2, (VR.made hr _).2, h⟩
      simp [Instr.makeMap, Result.andThen, run_underlying hu, asInt, asIntOf, hy']
theorem opX_det {E : Env} {op : Op} {args : List AV} {σ : Store} {K : AV → Store → Prop} (hb : ∀ it s, op ≠ .next it s) (hb2 : ∀ x, op ≠ .panic x) (h : opX E op args σ K) : ∃ a σ', opX E op args σ (fun x y => x = a ∧ y = σ') ∧ K a σ' := by
  unfold opX at h ⊢
  split at h
  · simp only [aRange] at h ⊢
    split at h
    · exact ⟨_, _, ⟨h.1, rfl, rfl⟩, h.2⟩
    · exact ⟨_, _, ⟨h.1, rfl, rfl⟩, h.2⟩
    · obtain ⟨h1, h⟩ := h
      split at h
      · rename_i hm
        try simp only [hm]
        exact ⟨_, _, ⟨h1, rfl, rfl⟩, h⟩
      · exact h.elim
    · exact h.elim
  · exact absurd rfl (hb _ _)
  · simp only [aLook] at h ⊢
    split at h
    · rename_i ht
      try simp only [ht]
      obtain ⟨h1, h⟩ := h
      split at h
      · rename_i hz
        try simp only [hz]
        split at h
        · exact ⟨_, _, ⟨h1, rfl, rfl⟩, h⟩
        · split at h
          · rename_i hm
            try simp only [hm]
            obtain ⟨h2, h⟩ := h
            split at h
            · rename_i hp
              try simp only [hp]
              exact ⟨_, _, ⟨h1, h2, rfl, rfl⟩, h⟩
            · rename_i hp
              try simp only [hp]
              exact ⟨_, _, ⟨h1, h2, rfl, rfl⟩, h⟩
          · exact h.elim
        · exact h.elim
      · exact h.elim
    · exact h.elim
  · exact aMapPut_det h
  · exact aMapPut_det h
  · exact ⟨_, _, ⟨rfl, rfl⟩, h⟩
  · exact ⟨_, _, ⟨h.1, rfl, rfl⟩, h.2⟩
  · simp only [aMapEntry] at h ⊢
    split at h
    · rename_i ht
      try simp only [ht]
      obtain ⟨h1, h⟩ := h
      split at h
      · rename_i hi hz
        try simp only [hi, hz]
        obtain ⟨h2, h⟩ := h
        split at h
        · rename_i hp
          try simp only [hp]
          exact ⟨_, _, ⟨h1, h2, rfl, rfl⟩, h⟩
        · rename_i hp
          try simp only [hp]
          exact ⟨_, _, ⟨h1, h2, rfl, rfl⟩, h⟩
      · exact h.elim
    · exact h.elim
  · simp only [aEntryStore] at h ⊢
    split at h
    · split at h
      · rename_i hi
        try simp only [hi]
        split at h
        · rename_i hj
          try simp only [hj]
          exact ⟨_, _, ⟨rfl, rfl⟩, h⟩
        · exact h.elim
      · exact h.elim
    · exact h.elim
  · simp only [aAssert] at h ⊢
    obtain ⟨h1, h2, h⟩ := h
    split at h
    · split at h
      · rename_i he
        try simp only [if_pos he]
        exact ⟨_, _, ⟨h1, h2, rfl, rfl⟩, h⟩
      · rename_i he
        try simp only [if_neg he]
        obtain ⟨h3, h⟩ := h
        split at h
        · rename_i hz
          try simp only [hz]
          exact ⟨_, _, ⟨h1, h2, h3, rfl, rfl⟩, h⟩
        · exact h.elim
    · obtain ⟨h3, h⟩ := h
      split at h
      · rename_i hz
        try simp only [hz]
        exact ⟨_, _, ⟨h1, h2, h3, rfl, rfl⟩, h⟩
      · exact h.elim
    · exact h.elim
  · exact absurd rfl (hb2 _)
  · exact h.elim
end Go.AW
end

section
set_option linter.unusedVariables false
set_option linter.unusedSimpArgs false
set_option linter.unnecessarySimpa false
namespace Go.AW
open Go

/-! ### Small operations -/
def aUn (op : UnOp) (x : AV) (K : AV → Prop) : Prop :=
  match op, x with
  | .not, .c (.bool b) => K (.c (.bool !b))
  | .neg, .c (.int k n) => K (.c (.int k (k.wrap (0 - n))))
  | _, _ => False

theorem aUn_ok {E : Env} {Γ : Ctx} {σ : Store} {w : World} {op : UnOp} {x : AV} {xv : Value} {K : AV → Store → Prop} (hr : R E Γ σ w) (hx : VR Γ w x xv) (h : aUn op x fun a => K a σ) :
    Up E Γ w K ((do pure (.value (← Op.unary op xv)) : Sem Next).run E.P w) := by
  unfold aUn at h
  split at h
  · cases hx; exact Up.value (w' := w) (by simp [Op.unary]) (Res.same hr (.c _ rfl) h)
  · cases hx; exact Up.value (w' := w) (by simp [Op.unary, Op.intArith]) (Res.same hr (.c _ rfl) h)
  · exact h.elim

def aNil (x : AV) (K : AV → Prop) : Prop :=
  match x with
  | .pp _ => K x
  | .rp .. => K x
  | .ifc .. => K x
  | .fn (.func _) _ _ => K x
  | _ => False

/-- The literal nil of an interface. -/
def isNilI : Operand → Bool
  | .const .nilIface => true
  | _ => false
/-- The fields stand one behind the other, a cell each, none is blank. -/
def flatF : List Field → Nat → Bool
  | [], _ => true
  | f :: fs, j => f.name != "_" && (f.offset == j) && flatF fs (j + 1)
/-- The kinds of the fields of a flat struct that can be compared. -/
def eqT (P : Program) (t : TypeId) : Option (List TK) :=
  match P.underlying t with
  | some (.struct fs) => if flatF fs.toList 0 && !P.stoodInHeld t && !P.eqGuardType P.depth t then some (fs.toList.map fun f => tk P f.type) else none
  | _ => none
/-- Are the cells the same? -/
def eqAll : List TK → List AV → List AV → Option Bool
  | [], _, _ => some true
  | .int _ :: ks, .c (.int k a) :: cs, .c (.int k' b) :: ds => if k = k' then (eqAll ks cs ds).map fun r => (a == b) && r else none
  | .str :: ks, .c (.string a) :: cs, .c (.string b) :: ds => (eqAll ks cs ds).map fun r => (a.toList == b.toList) && r
  | .bool :: ks, .c (.bool a) :: cs, .c (.bool b) :: ds => (eqAll ks cs ds).map fun r => (a == b) && r
  | _, _, _ => none
def eqK (op : BinOp) (r : Option Bool) (K : AV → Prop) : Prop :=
  match r, op with
  | some r, .eql => K (.c (.bool r))
  | some r, .neq => K (.c (.bool !r))
  | _, _ => False

/-- Scalars; pointers and interfaces held against nil; flat structs. -/
def aBin (E : Env) (cn : Bool) (op : BinOp) (t : TypeId) (x y : AV) (K : AV → Prop) : Prop :=
  match x, y with
  | .c (.bool p), .c (.bool q) => tk E.P t = .bool ∧ (match op with
    | .eql => K (.c (.bool (p == q)))
    | .neq => K (.c (.bool !(p == q)))
    | _ => False)
  | .c .nilIface, .c .nilIface => cn = true ∧ tk E.P t = .ifc ∧ (match op with
    | .eql => K (.c (.bool true))
    | .neq => K (.c (.bool false))
    | _ => False)
  | .ifc _ _, .c .nilIface => tk E.P t = .ifc ∧ (match op with
    | .eql => K (.c (.bool false))
    | .neq => K (.c (.bool true))
    | _ => False)
  | .c a, .c b => (match binS op a b with
    | some v => K (.c v)
    | none => False)
  | .agg cs, .agg ds => eqK op ((eqT E.P t).bind fun ks => eqAll ks cs ds) K
  | _, _ => False
theorem tk_bool' {P : Program} {t : TypeId} (h : tk P t = .bool) : P.underlying t = some .bool := by
  unfold tk at h
  split at h <;> first | cases h | skip
  assumption
theorem tk_ifc' {P : Program} {t : TypeId} (h : tk P t = .ifc) : ∃ ms, P.underlying t = some (.interface ms) := by
  unfold tk at h
  split at h <;> first | cases h | skip
  exact ⟨_, by assumption⟩
theorem run_equal_nil {P : Program} {t : TypeId} (h : tk P t = .ifc) (w : World) : (Op.equal t .nilIface .nilIface).run P w = .ok true w := by
  obtain ⟨ms, hu⟩ := tk_ifc' h
  show (Op.equalIn (9999 + 1) t .nilIface .nilIface).run P w = _
  generalize 9999 = n
  simp [Op.equalIn, run_underlying hu]
theorem run_equal_ifc {P : Program} {t : TypeId} (h : tk P t = .ifc) (t' : TypeId) (v : Value) (w : World) : (Op.equal t (.iface t' v) .nilIface).run P w = .ok false w := by
  obtain ⟨ms, hu⟩ := tk_ifc' h
  show (Op.equalIn (9999 + 1) t (.iface t' v) .nilIface).run P w = _
  generalize 9999 = n
  simp [Op.equalIn, run_underlying hu]

theorem part_one {E : Env} {Γ : Ctx} {w : World} {ty : TypeId} {j : Nat} {cs ys : List AV} {xs : Array Value} {v : Value} (hx : VR Γ w (.agg cs) (.agg xs)) (ht : tk E.P ty ≠ .other) (hA : (tk E.P ty).agg = false) (hd : cs.drop j = .c v :: ys) :
    (part ty xs j).run E.P w = .ok v w := by
  obtain ⟨u, a, h1, h2, rfl⟩ := part_ok (E := E) (K := fun a => a = .c v) (o := j) (ty := ty) hx (by unfold aLoadC; exact ⟨ht, by simp [hA, hd]⟩)
  cases h2
  exact h1
theorem run_eqFields {E : Env} {Γ : Ctx} {w : World} {cs ds : List AV} {xs ys : Array Value} (hx : VR Γ w (.agg cs) (.agg xs)) (hy : VR Γ w (.agg ds) (.agg ys)) (d : Nat) : ∀ (fs : List Field) (j : Nat) (r : Bool), flatF fs j = true → eqAll (fs.map fun f => tk E.P f.type) (cs.drop j) (ds.drop j) = some r →
    (Op.eqFields (d + 1) xs ys fs).run E.P w = .ok r w
  | [], j, r, _, h => by
    simp [eqAll] at h
    subst h
    simp [Op.eqFields]
  | f :: fs, j, r, hf, h => by
    simp only [flatF, Bool.and_eq_true, bne_iff_ne, ne_eq, beq_iff_eq] at hf
    obtain ⟨⟨hn, ho⟩, hf⟩ := hf
    have ih := fun r => run_eqFields (E := E) hx hy d fs (j + 1) r
    have step : ∀ (u v : Value) (b r' : Bool) (ys1 ys2 : List AV), cs.drop j = .c u :: ys1 → ds.drop j = .c v :: ys2 → tk E.P f.type ≠ .other → (tk E.P f.type).agg = false → (Op.equalIn (d + 1) f.type u v).run E.P w = .ok b w →
        eqAll (fs.map fun f => tk E.P f.type) ys1 ys2 = some r' → (Op.eqFields (d + 1) xs ys (f :: fs)).run E.P w = .ok (b && r') w := by
      intro u v b r' ys1 ys2 h1 h2 h3 h4 h5 h6
      have p1 := part_one hx h3 h4 h1
      have p2 := part_one hy h3 h4 h2
      have e1 : cs.drop (j + 1) = ys1 := by rw [← List.drop_drop, h1]; rfl
      have e2 : ds.drop (j + 1) = ys2 := by rw [← List.drop_drop, h2]; rfl
      have ih := ih r' hf (by rw [e1, e2]; exact h6)
      rw [Op.eqFields, if_pos hn, ho]
      simp only [Sem.run_bind, p1, p2, Result.andThen_ok, h5]
      cases b with
      | false => simp
      | true => simpa using ih
    simp only [List.map_cons] at h
    generalize hk : tk E.P f.type = k at h
    generalize hc : cs.drop j = c1 at h
    generalize hd : ds.drop j = d1 at h
    unfold eqAll at h
    split at h
    · rename_i e; simp at e
    · rename_i ks _ ks' k1 a cs1 k2 b ds1 e
      simp only [List.cons.injEq] at e
      obtain ⟨rfl, rfl⟩ := e
      split at h
      · rename_i hkk
        subst hkk
        rw [Option.map_eq_some_iff] at h
        obtain ⟨r', h6, rfl⟩ := h
        exact step _ _ _ r' _ _ hc hd (by rw [hk]; simp) (by rw [hk]; rfl) (run_equalIn_int w d f.type _ _ a b (tk_int hk)) h6
      · cases h
    · rename_i ks' a cs1 b ds1 e
      simp only [List.cons.injEq] at e
      obtain ⟨rfl, rfl⟩ := e
      rw [Option.map_eq_some_iff] at h
      obtain ⟨r', h6, rfl⟩ := h
      exact step _ _ _ r' _ _ hc hd (by rw [hk]; simp) (by rw [hk]; rfl) (run_equalIn_string w d f.type a b (tk_str hk)) h6
    · rename_i ks' a cs1 b ds1 e
      simp only [List.cons.injEq] at e
      obtain ⟨rfl, rfl⟩ := e
      rw [Option.map_eq_some_iff] at h
      obtain ⟨r', h6, rfl⟩ := h
      exact step _ _ _ r' _ _ hc hd (by rw [hk]; simp) (by rw [hk]; rfl) (run_equalIn_bool w d f.type a b (tk_bool' hk)) h6
    · cases h
theorem eqK_ok {E : Env} {Γ : Ctx} {σ : Store} {w : World} {op : BinOp} {t : TypeId} {ox oy : Operand} {cs ds : List AV} {xv yv : Value} {K : AV → Store → Prop} (hr : R E Γ σ w) (hx : VR Γ w (.agg cs) xv) (hy : VR Γ w (.agg ds) yv)
    (h : eqK op ((eqT E.P t).bind fun ks => eqAll ks cs ds) fun a => K a σ) : Up E Γ w K ((do pure (.value (← (do eqGuard op t ox oy xv yv; binOp op t xv yv : Sem Value))) : Sem Next).run E.P w) := by
  obtain ⟨xs, rfl⟩ : ∃ xs, xv = .agg xs := by cases hx; exact ⟨_, rfl⟩
  obtain ⟨ys, rfl⟩ : ∃ ys, yv = .agg ys := by cases hy; exact ⟨_, rfl⟩
  unfold eqK at h
  generalize hq : ((eqT E.P t).bind fun ks => eqAll ks cs ds) = q at h
  cases q with
  | none => exact h.elim
  | some r =>
    rw [Option.bind_eq_some_iff] at hq
    obtain ⟨ks, h1, h2⟩ := hq
    unfold eqT at h1
    split at h1
    · rename_i fs hu
      split at h1
      · rename_i hc
        cases h1
        simp only [Bool.and_eq_true, Bool.not_eq_true'] at hc
        obtain ⟨⟨hc1, hc2⟩, hc3⟩ := hc
        have hfs : E.P.fieldsOf t = fs := by unfold Program.fieldsOf; rw [hu]
        have he : (Op.equalIn 10000 t (.agg xs) (.agg ys)).run E.P w = .ok r w := by
          rw [show (10000 : Nat) = 9999 + 1 from rfl, run_equalIn_struct w 9999 t xs ys (by rw [hfs]; exact hu) hc2, hfs]
          exact run_eqFields hx hy 9998 fs.toList 0 r hc1 (by simpa using h2)
        have hg := run_eqGuard_agg w op t ox oy xs ys hc3
        split at h
        · rename_i r' heq
          cases heq
          exact Up.value (v := .bool r) (w' := w) (by simp [Sem.run_bind, hg, run_eql_struct, he]) (Res.same hr (.c _ rfl) h)
        · rename_i r' heq
          cases heq
          exact Up.value (v := .bool !r) (w' := w) (by simp [Sem.run_bind, hg, run_neq_struct, he]) (Res.same hr (.c _ rfl) h)
        · exact h.elim
      · cases h1
    · cases h1

theorem run_equal_bool' {P : Program} {t : TypeId} (hu : P.underlying t = some .bool) (p q : Bool) (w : World) : (Op.equal t (.bool p) (.bool q)).run P w = .ok (p == q) w := by
  show (Op.equalIn (9999 + 1) t (.bool p) (.bool q)).run P w = _
  generalize 9999 = n
  simp [Op.equalIn, run_underlying hu]

theorem aBin_ok {E : Env} {Γ : Ctx} {σ : Store} {w : World} {cn : Bool} {op : BinOp} {t : TypeId} {ox oy : Operand} {x y : AV} {xv yv : Value} {K : AV → Store → Prop} (hcn : cn = true → oy = .const .nilIface) (hr : R E Γ σ w) (hx : VR Γ w x xv) (hy : VR Γ w y yv)
    (h : aBin E cn op t x y fun a => K a σ) : Up E Γ w K ((do pure (.value (← (do eqGuard op t ox oy xv yv; binOp op t xv yv : Sem Value))) : Sem Next).run E.P w) := by
  unfold aBin at h
  split at h
  · rename_i p q
    cases hx; cases hy
    obtain ⟨ht, h⟩ := h
    have hu : E.P.underlying t = some .bool := by
      unfold tk at ht
      split at ht <;> first | cases ht | skip
      assumption
    have he := run_equal_bool' hu p q w
    split at h
    · refine Up.value (w' := w) ?_ (Res.same hr (.c _ rfl) h)
      simp [eqGuard, binOp]
      rw [he]
      rfl
    · refine Up.value (w' := w) ?_ (Res.same hr (.c _ rfl) h)
      simp [eqGuard, binOp]
      rw [he]
      rfl
    · exact h.elim
  · cases hx; cases hy
    obtain ⟨h1, ht, h⟩ := h
    have he := run_equal_nil ht w
    have ho := hcn h1
    subst ho
    split at h
    · exact Up.value (v := .bool true) (w' := w) (by simp [eqGuard, binOp, he]) (Res.same hr (.c _ rfl) h)
    · exact Up.value (v := .bool false) (w' := w) (by simp [eqGuard, binOp, he]) (Res.same hr (.c _ rfl) h)
    · exact h.elim
  · obtain ⟨ht, h⟩ := h
    cases hy
    cases hx with
    | ifc _ a v hv =>
      rename_i t' hv' _
      have he := run_equal_ifc ht t' v w
      split at h
      · exact Up.value (v := .bool false) (w' := w) (by simp [eqGuard, binOp, he]) (Res.same hr (.c _ rfl) h)
      · exact Up.value (v := .bool true) (w' := w) (by simp [eqGuard, binOp, he]) (Res.same hr (.c _ rfl) h)
      · exact h.elim
  · cases hx; cases hy
    split at h
    · rename_i v hv
      have : v.oneCell' = true := by
        unfold binS at hv
        split at hv <;> first
          | (split at hv <;> first | (cases hv; rfl) | cases hv)
          | (cases hv; rfl)
          | cases hv
      exact Up.value (run_binS E.P hv w) (Res.same hr (.c _ this) h)
    · exact h.elim
  · exact eqK_ok hr hx hy h
  · exact h.elim

theorem aBin_det {E : Env} {cn : Bool} {op : BinOp} {t : TypeId} {x y : AV} {σ : Store} {K : AV → Store → Prop} (h : aBin E cn op t x y fun a => K a σ) : ∃ a σ', (aBin E cn op t x y fun a' => a' = a ∧ σ = σ') ∧ K a σ' := by
  unfold aBin at *
  split at h
  · obtain ⟨h1, h⟩ := h
    split at h <;> first | exact h.elim | exact ⟨_, _, ⟨h1, rfl, rfl⟩, h⟩
  · obtain ⟨h1, h2, h⟩ := h
    split at h <;> first | exact h.elim | exact ⟨_, _, ⟨h1, h2, rfl, rfl⟩, h⟩
  · obtain ⟨h1, h⟩ := h
    split at h <;> first | exact h.elim | exact ⟨_, _, ⟨h1, rfl, rfl⟩, h⟩
  · split at h <;> first | exact h.elim | exact ⟨_, _, ⟨rfl, rfl⟩, h⟩
  · unfold eqK at *
    split at h <;> first | exact h.elim | exact ⟨_, _, ⟨rfl, rfl⟩, h⟩
  · exact h.elim

/-- The literal nil of a slice. -/
def isNil : Operand → Bool
  | .const (.slice none 0 0) => true
  | _ => false

/-- A slice held against nil: one with elements is not nil; of another the answer is not known. -/
def aNilEq (E : Env) (op : BinOp) (t : TypeId) (x : AV) (K : AV → Prop) : Prop :=
  match tk E.P t, op with
  | .slc _, .eql => (match x with
    | .ps (_ :: _) => K (.c (.bool false))
    | .ps [] => ∀ b, K (.c (.bool b))
    | .nl => ∀ b, K (.c (.bool b))
    | .rs .. => ∀ b, K (.c (.bool b))
    | _ => False)
  | .slc _, .neq => (match x with
    | .ps (_ :: _) => K (.c (.bool true))
    | .ps [] => ∀ b, K (.c (.bool b))
    | .nl => ∀ b, K (.c (.bool b))
    | .rs .. => ∀ b, K (.c (.bool b))
    | _ => False)
  | _, _ => False

theorem aNilEq_ok {E : Env} {Γ : Ctx} {σ : Store} {w : World} {op : BinOp} {t : TypeId} {ox oy : Operand} {x : AV} {xv : Value} {K : AV → Store → Prop} (hr : R E Γ σ w) (hx : VR Γ w x xv)
    (h : aNilEq E op t x fun a => K a σ) : Up E Γ w K ((do pure (.value (← (do eqGuard op t ox oy xv (.slice none 0 0); binOp op t xv (.slice none 0 0) : Sem Value))) : Sem Next).run E.P w) := by
  have hsl : ∃ a l c, xv = .slice a l c ∧ ((∃ y ys, x = .ps (y :: ys)) → a.isNone = false) := by
    unfold aNilEq at h
    split at h
    all_goals first | exact h.elim | skip
    all_goals
      split at h <;> first | exact h.elim | skip
    all_goals cases hx
    all_goals refine ⟨_, _, _, rfl, ?_⟩
    all_goals rintro ⟨y, ys, e⟩
    all_goals first
      | (cases e; done)
      | (rename_i hc ha _ _ _; rw [(ha (by simp)).1]; rfl)
  obtain ⟨a, l, c, rfl, hne⟩ := hsl
  unfold aNilEq at h
  split at h
  · rename_i e ht
    have he := run_equal_slice_nil (P := E.P) w t e a l c (tk_slc ht)
    refine Up.value (v := .bool a.isNone) (w' := w) (by simp [eqGuard, binOp, he]) (Res.same hr (.c _ rfl) ?_)
    split at h
    · rw [hne ⟨_, _, rfl⟩]; exact h
    · exact h _
    · exact h _
    · exact h _
    · exact h.elim
  · rename_i e ht
    have he := run_equal_slice_nil (P := E.P) w t e a l c (tk_slc ht)
    refine Up.value (v := .bool !a.isNone) (w' := w) (by simp [eqGuard, binOp, he]) (Res.same hr (.c _ rfl) ?_)
    split at h
    · rw [hne ⟨_, _, rfl⟩]; exact h
    · exact h _
    · exact h _
    · exact h _
    · exact h.elim
  · exact h.elim

/-! ### Calls -/
theorem VRs.append {Γ : Ctx} {w : World} {as bs : List AV} {vs us : List Value} (h : VRs Γ w as vs) (k : VRs Γ w bs us) : VRs Γ w (as ++ bs) (vs ++ us) := by
  refine ⟨by simp [h.1, k.1], fun j a v ha hv => ?_⟩
  by_cases hj : j < as.length
  · rw [List.getElem?_append_left hj] at ha
    rw [List.getElem?_append_left (by have := h.1; omega)] at hv
    exact h.2 j a v ha hv
  · rw [List.getElem?_append_right (by omega)] at ha
    rw [List.getElem?_append_right (by have := h.1; omega), ← h.1] at hv
    exact k.2 _ a v ha hv

def ACalls (E : Env) (f : FuncId) (args : List AV) (σ : Store) (Q : AV → Store → Prop) : Prop :=
  ∀ (Γ : Ctx) (w : World) (vs : Array Value), R E Γ σ w → VRs Γ w args vs.toList → Calls E.P f vs w (Ends E Γ w Q)

theorem ACalls.mono {E : Env} {f : FuncId} {args : List AV} {σ : Store} {Q Q' : AV → Store → Prop} (h : ACalls E f args σ Q) (hq : ∀ a σ', Q a σ' → Q' a σ') : ACalls E f args σ Q' :=
  fun Γ w vs hr hv => (h Γ w vs hr hv).mono fun _ _ he => he.mono hq

def callable (P : Program) (f : FuncId) : Bool :=
  match P.funcs[f]? with
  | some fn => fn.name != "runtime.NumGoroutine" && fn.body.isSome
  | none => false

theorem run_callFunc {P : Program} {f : FuncId} (h : callable P f = true) (args : Array Value) (w : World) : (callFunc f args).run P w = .ok (.enter f args) w := by
  unfold callable at h
  split at h
  · rename_i fn hf
    simp only [Bool.and_eq_true, bne_iff_ne, ne_eq] at h
    simp [callFunc, hf, h.1]
    intro hn
    rw [hn] at h
    simp at h
  · cases h

def aLen (E : Env) (t : TypeId) (x : AV) (σ : Store) (K : AV → Prop) : Prop :=
  match tk E.P t, x with
  | .str, .c (.string s) => K (.c (.int .i64 s.size))
  | .slc _, .ps es => K (.c (.int .i64 es.length))
  | .slc _, .nl => K (.c (.int .i64 0))
  | .slc _, .rs _ _ _ len => K (.c (.int .i64 len))
  | .slc _, .rc _ _ _ len _ => K (.c (.int .i64 len))
  | .map _ _, .c (.map none) => K (.c (.int .i64 0))
  | .map _ _, .mp i => (match σ.get i with
    | some (.map ents _ _) => K (.c (.int .i64 ents.length))
    | _ => False)
  | _, _ => False

theorem aLen_ok {E : Env} {Γ : Ctx} {σ : Store} {w : World} {t ty : TypeId} {x : AV} {xv : Value} {K : AV → Store → Prop} (hr : R E Γ σ w) (hx : VR Γ w x xv) (h : aLen E t x σ fun a => K a σ) :
    ∃ v, (Builtin.len_ #[t] ty #[xv]).run E.P w = .ok v w ∧ Res E Γ w K v w := by
  unfold aLen at h
  split at h
  · rename_i ht; cases hx; exact ⟨_, by simp [Builtin.len_, goInt, run_underlying (tk_str ht)], Res.same hr (.c _ rfl) h⟩
  · rename_i ht; cases hx; exact ⟨_, by simp [Builtin.len_, goInt, run_underlying (tk_slc ht)], Res.same hr (.c _ rfl) h⟩
  · rename_i ht; cases hx; exact ⟨_, by simp [Builtin.len_, goInt, run_underlying (tk_slc ht)], Res.same hr (.c _ rfl) h⟩
  · rename_i ht; cases hx; exact ⟨_, by simp [Builtin.len_, goInt, run_underlying (tk_slc ht)], Res.same hr (.c _ rfl) h⟩
  · rename_i ht; cases hx; exact ⟨_, by simp [Builtin.len_, goInt, run_underlying (tk_slc ht)], Res.same hr (.c _ rfl) h⟩
  · rename_i ht; cases hx; exact ⟨_, by simp [Builtin.len_, goInt, run_underlying (tk_map ht)], Res.same hr (.c _ rfl) h⟩
  · rename_i ht
    split at h
    · rename_i ents _ _ hget
      obtain ⟨l, hl, ho, _⟩ := hr.loc hget
      obtain ⟨h0, b, es, q1, q2, q3, q4, q5⟩ := ho
      cases hx with
      | mp i r hi hm =>
        have hrb := hm l hl h0
        rw [q1] at hrb; cases hrb
        refine ⟨.int .i64 ents.length, ?_, Res.same hr (.c _ rfl) h⟩
        simp [Builtin.len_, goInt, run_underlying (tk_map ht), getObj, Sem.run, q2, q3]
    · exact h.elim
  · exact h.elim

/-- A function of the model's own table. -/
def AExt (E : Env) (k : FuncId) (args : List AV) (σ : Store) (K : AV → Store → Prop) : Prop :=
  ∀ (Γ : Ctx) (w : World) (vs : Array Value), R E Γ σ w → VRs Γ w args vs.toList → ∃ v w', (callFunc k vs).run E.P w = .ok (.value v) w' ∧ Res E Γ w K v w'

/-- How the made row is kept: 0: written no more; 1: the store's; 2: a row that only grows; 3: an append's answer that is written no more. -/
def ownN (ow : List Nat) (d : Option Tmp) : Nat := match d with
  | some d => if ow.contains d then 1 else if ow.contains (d + 2000000) then 2 else if ow.contains (d + 7000000) then 3 else 0
  | none => 0

/-- An argument as the callee knows it; the callees of the list take it as it is. -/
def argV (ow : List Nat) (k : FuncId) (a : AV) : AV := if ow.contains (k + 5000000) then a else frz a
/-- A round of a range over a function: what the call of yield comes to. -/
def AYield (E : Env) (b : Nat) (args : List AV) (σ : Store) (K : AV → Store → Prop) : Prop :=
  ∀ (Γ : Ctx) (w : World) (vs : Array Value), R E Γ σ w → VRs Γ w args vs.toList → ∃ fn tmps assign body, (Instr.yield b vs).run E.P w = .ok (.round b fn tmps assign body) w ∧ RoundIn Fence.wide 0 E.P b fn tmps assign body w (Ends E Γ w K)
theorem AYield.mono {E : Env} {b : Nat} {args : List AV} {σ : Store} {K K' : AV → Store → Prop} (h : AYield E b args σ K) (hk : ∀ a s, K a s → K' a s) : AYield E b args σ K' := by
  intro Γ w vs hr hv
  obtain ⟨fn, tmps, assign, body, h1, h2⟩ := h Γ w vs hr hv
  exact ⟨fn, tmps, assign, body, h1, h2.mono fun _ _ he => he.mono hk⟩
def aCall (E : Env) (ow : List Nat) (own : Nat) (c : Call) (f : Nat → AV) (σ : Store) (K : AV → Store → Prop) : Prop :=
  match c.callee with
  | .value g => (match aeval E.G f g with
    | .fn (.func k) first cap => if callable E.P k = true then ACalls E k (first ++ c.args.toList.map (fun x => argV ow k (aeval E.G f x)) ++ cap) σ K else AExt E k (first ++ c.args.toList.map (aeval E.G f) ++ cap) σ K
    | .fn (.yield b) [] [] => AYield E b (c.args.toList.map fun x => frz (aeval E.G f x)) σ K
    | _ => False)
  | .invoke r m => (match aeval E.G f r with
    | .ifc t v => (match methodOf E.P t m with
      | some k => callable E.P k = true ∧ ACalls E k (v :: c.args.toList.map (fun x => argV ow k (aeval E.G f x))) σ K
      | none => False)
    | _ => False)
  | .builtin .append => (match c.args.toList, c.argTypes.toList with
    | [s, x], [t, u] => aAppend2 E own t u (aeval E.G f s) (aeval E.G f x).rd σ K
    | _, _ => False)
  | .builtin .cap => (match c.args.toList, c.argTypes.toList with
    | [x], [t] => aCap E t (aeval E.G f x) fun a => K a σ
    | _, _ => False)
  | .builtin .copy => (match c.args.toList, c.argTypes.toList with
    | [s, x], [t, u] => aCopy E t (aeval E.G f s) (aeval E.G f x).rd σ K
    | _, _ => False)
  | .builtin .clear => (match c.args.toList, c.argTypes.toList with
    | [x], [t] => aClear E t (aeval E.G f x) σ fun σ' => K (.tup []) σ'
    | _, _ => False)
  | .builtin .len => (match c.args.toList, c.argTypes.toList with
    | [x], [t] => aLen E t (aeval E.G f x).rd σ fun a => K a σ
    | _, _ => False)
  | .builtin .delete => (match c.args.toList, c.argTypes.toList with
    | [m, k], [t, u] => aMapDel E t (aeval E.G f m) (aeval E.G f k) σ K
    | _, _ => False)
  | .builtin .max => (match c.args.toList.map (aeval E.G f) with
    | [.c (.int k a), .c (.int _ b)] => K (.c (.int k (if b > a then b else a))) σ
    | _ => False)
  | .builtin .min => (match c.args.toList.map (aeval E.G f) with
    | [.c (.int k a), .c (.int _ b)] => K (.c (.int k (if b < a then b else a))) σ
    | _ => False)
  | _ => False

theorem toList_two {α : Type} {a : Array α} {x y : α} (h : a.toList = [x, y]) : a = #[x, y] := by cases a; simp_all
theorem toList_one {α : Type} {a : Array α} {x : α} (h : a.toList = [x]) : a = #[x] := by cases a; simp_all

theorem aCall_ok {ow : List Nat} {own : Nat} {E : Env} {Γ : Ctx} {σ : Store} {w : World} {c : Call} {ty : TypeId} {f : Nat → AV} {ρ : Operand → Value} {K : AV → Store → Prop} (hr : R E Γ σ w) (hρ : ∀ x ∈ c.operands, VR Γ w (aeval E.G f x) (ρ x))
    (h : aCall E ow own c f σ K) : Up E Γ w K ((do let d ← resolve ρ c ty; invoke d.target d.args : Sem Next).run E.P w) := by
  have hargs : VRs Γ w (c.args.toList.map (aeval E.G f)) (c.args.map ρ).toList := by
    refine ⟨by simp, fun j a v ha hv => ?_⟩
    rw [List.getElem?_map, Option.map_eq_some_iff] at ha
    obtain ⟨x, hx, rfl⟩ := ha
    simp only [Array.toList_map, List.getElem?_map, hx, Option.map_some, Option.some.injEq] at hv
    subst hv
    refine hρ x ?_
    unfold Call.operands
    exact Array.mem_append.2 (.inr (Array.mem_toList_iff.1 (List.mem_of_getElem? hx)))
  unfold aCall at h
  split at h
  · rename_i g hc
    have hg := hρ g (by unfold Call.operands; rw [hc]; simp)
    split at h
    · rename_i k first cap hfn
      rw [hfn] at hg
      generalize hgv : ρ g = gv at hg
      cases hg with
      | fn _ _ _ xs ys hxs hys h1 h2 =>
        have hv : VRs Γ w (first ++ c.args.toList.map (aeval E.G f) ++ cap) (xs ++ c.args.map ρ ++ ys).toList := by
          have a1 : VRs Γ w first xs.toList := ⟨by simpa using hxs, fun j a v ha hv => h1 j a v ha (by simpa using hv)⟩
          have a2 : VRs Γ w cap ys.toList := ⟨by simpa using hys, fun j a v ha hv => h2 j a v ha (by simpa using hv)⟩
          have := (a1.append hargs).append a2
          simpa using this
        have hv' : VRs Γ w (first ++ c.args.toList.map (fun x => argV ow k (aeval E.G f x)) ++ cap) (xs ++ c.args.map ρ ++ ys).toList := by
          have a1 : VRs Γ w first xs.toList := ⟨by simpa using hxs, fun j a v ha hv => h1 j a v ha (by simpa using hv)⟩
          have a2 : VRs Γ w cap ys.toList := ⟨by simpa using hys, fun j a v ha hv => h2 j a v ha (by simpa using hv)⟩
          have a3 : VRs Γ w (c.args.toList.map fun x => argV ow k (aeval E.G f x)) (c.args.map ρ).toList := by
            refine ⟨by simpa using hargs.1, fun j a v ha hv => ?_⟩
            rw [List.getElem?_map, Option.map_eq_some_iff] at ha
            obtain ⟨x, hx, rfl⟩ := ha
            have := hargs.2 j _ v (by rw [List.getElem?_map, hx]; rfl) hv
            unfold argV
            split
            · exact this
            · exact this.frz
          have := (a1.append a3).append a2
          simpa using this
        split at h
        · rename_i hcall
          have hrc := run_callFunc hcall (xs ++ c.args.map ρ ++ ys) w
          have hb : (do let d ← resolve ρ c ty; invoke d.target d.args : Sem Next).run E.P w = .ok (.enter k (xs ++ c.args.map ρ ++ ys)) w := by
            simp [resolve, hc, hgv, Deferred.ofValue, invoke]
            simpa using hrc
          rw [hb]
          exact h Γ w _ hr hv'
        · obtain ⟨v, w', hrc, hres⟩ := h Γ w _ hr hv
          have hb : (do let d ← resolve ρ c ty; invoke d.target d.args : Sem Next).run E.P w = .ok (.value v) w' := by
            simp [resolve, hc, hgv, Deferred.ofValue, invoke]
            simpa using hrc
          rw [hb]
          exact hres
    · rename_i b hfn
      rw [hfn] at hg
      generalize hgv : ρ g = gv at hg
      cases hg with
      | fn _ _ _ xs ys hxs hys h1 h2 =>
        obtain rfl : xs = #[] := Array.eq_empty_of_size_eq_zero (by simpa using hxs.symm)
        obtain rfl : ys = #[] := Array.eq_empty_of_size_eq_zero (by simpa using hys.symm)
        have hv' : VRs Γ w (c.args.toList.map fun x => frz (aeval E.G f x)) (c.args.map ρ).toList := by
          refine ⟨by simpa using hargs.1, fun j a v ha hv => ?_⟩
          rw [List.getElem?_map, Option.map_eq_some_iff] at ha
          obtain ⟨x, hx, rfl⟩ := ha
          exact (hargs.2 j _ v (by rw [List.getElem?_map, hx]; rfl) hv).frz
        obtain ⟨fn, tmps, assign, body, hy, hround⟩ := h Γ w _ hr hv'
        have hb : (do let d ← resolve ρ c ty; invoke d.target d.args : Sem Next).run E.P w = .ok (.round b fn tmps assign body) w := by
          simp [resolve, hc, hgv, Deferred.ofValue, invoke]
          simpa using hy
        rw [hb]
        exact hround
    · exact h.elim
  · rename_i r m hc
    have hg := hρ r (by unfold Call.operands; rw [hc]; simp)
    split at h
    · rename_i t v hfn
      rw [hfn] at hg
      generalize hgv : ρ r = gv at hg
      cases hg with
      | ifc _ _ u hu =>
        split at h
        · rename_i k hm
          obtain ⟨hcall, h⟩ := h
          have hv' : VRs Γ w (v :: c.args.toList.map fun x => argV ow k (aeval E.G f x)) (#[u] ++ c.args.map ρ).toList := by
            have a1 : VRs Γ w [v] [u] := ⟨rfl, fun j a x ha hx => by
              cases j with
              | zero => cases ha; cases hx; exact hu
              | succ j => simp at ha⟩
            have a3 : VRs Γ w (c.args.toList.map fun x => argV ow k (aeval E.G f x)) (c.args.map ρ).toList := by
              refine ⟨by simpa using hargs.1, fun j a v ha hv => ?_⟩
              rw [List.getElem?_map, Option.map_eq_some_iff] at ha
              obtain ⟨x, hx, rfl⟩ := ha
              have := hargs.2 j _ v (by rw [List.getElem?_map, hx]; rfl) hv
              unfold argV
              split
              · exact this
              · exact this.frz
            have := a1.append a3
            simpa using this
          have hrc := run_callFunc hcall (#[u] ++ c.args.map ρ) w
          have hmeth := run_methodOf hm u w
          have hb : (do let d ← resolve ρ c ty; invoke d.target d.args : Sem Next).run E.P w = .ok (.enter k (#[u] ++ c.args.map ρ)) w := by
            have e1 : (#[Value.iface t u] ++ c.args.map ρ).extract 1 (#[Value.iface t u] ++ c.args.map ρ).size = c.args.map ρ := by
              apply Array.ext'
              simp
              exact List.take_of_length_le (by simp)
            have e2 : (#[Value.iface t u] ++ c.args.map ρ)[0]? = some (Value.iface t u) := by rw [Array.getElem?_append_left (by simp)]; rfl
            obtain ⟨n, hn⟩ : ∃ n, E.P.types.size + Made.depth = n + 1 := ⟨E.P.types.size + (Made.depth - 1), rfl⟩
            simp only [resolve, hc, hgv, Sem.run_bind, Sem.run_pure, Result.andThen_ok, invoke, e2, e1, callMethod, run_program, hn, hmeth, hrc]
          rw [hb]
          exact h Γ w _ hr hv'
        · exact h.elim
    · exact h.elim
  · rename_i hc
    split at h
    · rename_i s x t u ha ht
      have ha' := toList_two ha
      have ht' := toList_two ht
      have hs := hρ s (by unfold Call.operands; rw [hc, ha']; simp)
      have hx := hρ x (by unfold Call.operands; rw [hc, ha']; simp)
      obtain ⟨v, w', hrun, hres⟩ := aAppend2_ok (ty := ty) hr hs hx.rd h
      have hb : (do let d ← resolve ρ c ty; invoke d.target d.args : Sem Next).run E.P w = .ok (.value v) w' := by
        simp [resolve, hc, ha', ht', invoke, builtin, hrun]
      rw [hb]; exact hres
    · exact h.elim
  · rename_i hc
    split at h
    · rename_i x t ha ht
      have ha' := toList_one ha
      have ht' := toList_one ht
      have hx := hρ x (by unfold Call.operands; rw [hc, ha']; simp)
      obtain ⟨v, hrun, hres⟩ := aCap_ok (ty := ty) hr hx h
      have hb : (do let d ← resolve ρ c ty; invoke d.target d.args : Sem Next).run E.P w = .ok (.value v) w := by
        simp [resolve, hc, ha', ht', invoke, builtin, hrun]
      rw [hb]; exact hres
    · exact h.elim
  · rename_i hc
    split at h
    · rename_i s x t u ha ht
      have ha' := toList_two ha
      have ht' := toList_two ht
      have hs := hρ s (by unfold Call.operands; rw [hc, ha']; simp)
      have hx := hρ x (by unfold Call.operands; rw [hc, ha']; simp)
      obtain ⟨v, w', hrun, hres⟩ := aCopy_ok (u := u) (ty := ty) hr hs hx.rd h
      have hb : (do let d ← resolve ρ c ty; invoke d.target d.args : Sem Next).run E.P w = .ok (.value v) w' := by
        simp [resolve, hc, ha', ht', invoke, builtin, hrun]
      rw [hb]; exact hres
    · exact h.elim
  · rename_i hc
    split at h
    · rename_i x t ha ht
      have ha' := toList_one ha
      have ht' := toList_one ht
      have hx := hρ x (by unfold Call.operands; rw [hc, ha']; simp)
      obtain ⟨v, w', hrun, hres⟩ := aClear_ok (ty := ty) hr hx h
      have hb : (do let d ← resolve ρ c ty; invoke d.target d.args : Sem Next).run E.P w = .ok (.value v) w' := by
        simp [resolve, hc, ha', ht', invoke, builtin, hrun]
      rw [hb]; exact hres
    · exact h.elim
  · rename_i hc
    split at h
    · rename_i x t ha ht
      have ha' := toList_one ha
      have ht' := toList_one ht
      have hx := hρ x (by unfold Call.operands; rw [hc, ha']; simp)
      obtain ⟨v, hrun, hres⟩ := aLen_ok (ty := ty) hr hx.rd h
      have hb : (do let d ← resolve ρ c ty; invoke d.target d.args : Sem Next).run E.P w = .ok (.value v) w := by
        simp [resolve, hc, ha', ht', invoke, builtin, hrun]
      rw [hb]; exact hres
    · exact h.elim
  · rename_i hc
    split at h
    · rename_i m k t u ha ht
      have ha' := toList_two ha
      have ht' := toList_two ht
      have hm := hρ m (by unfold Call.operands; rw [hc, ha']; simp)
      have hk := hρ k (by unfold Call.operands; rw [hc, ha']; simp)
      have := aMapDel_ok (ty := ty) (ts := #[t, u]) rfl hr hm hk h
      simpa [resolve, hc, ha', ht', invoke, builtin] using this
    · exact h.elim
  · rename_i hc
    split at h
    · rename_i k a k' b ha
      have h0 := hargs
      rw [ha] at h0
      obtain ⟨h1, h2⟩ := h0
      obtain ⟨x, y, hxy⟩ : ∃ x y, (c.args.map ρ).toList = [x, y] := by
        match hm : (c.args.map ρ).toList, h1 with
        | [x, y], _ => exact ⟨x, y, rfl⟩
      rw [hxy] at h2
      have hx := h2 0 _ _ rfl rfl
      have hy := h2 1 _ _ rfl rfl
      cases hx; cases hy
      have hb : (do let d ← resolve ρ c ty; invoke d.target d.args : Sem Next).run E.P w = .ok (.value (.int k (if b > a then b else a))) w := by
        have := toList_two hxy
        simp [resolve, hc, this, invoke, builtin, Builtin.max_, Builtin.max2, -Array.toList_map]
      rw [hb]; exact Res.same hr (.c _ rfl) h
    · exact h.elim
  · rename_i hc
    split at h
    · rename_i k a k' b ha
      have h0 := hargs
      rw [ha] at h0
      obtain ⟨h1, h2⟩ := h0
      obtain ⟨x, y, hxy⟩ : ∃ x y, (c.args.map ρ).toList = [x, y] := by
        match hm : (c.args.map ρ).toList, h1 with
        | [x, y], _ => exact ⟨x, y, rfl⟩
      rw [hxy] at h2
      have hx := h2 0 _ _ rfl rfl
      have hy := h2 1 _ _ rfl rfl
      cases hx; cases hy
      have hb : (do let d ← resolve ρ c ty; invoke d.target d.args : Sem Next).run E.P w = .ok (.value (.int k (if b < a then b else a))) w := by
        have := toList_two hxy
        simp [resolve, hc, this, invoke, builtin, Builtin.min_, Builtin.min2, -Array.toList_map]
      rw [hb]; exact Res.same hr (.c _ rfl) h
    · exact h.elim
  · exact h.elim

/-- A row that only grows, without elements yet. -/
theorem new_nil_log {E : Env} {Γ : Ctx} {σ : Store} {w : World} {K : AV → Store → Prop} {e : TypeId} (hr : R E Γ σ w) (h : K (.lg σ.next []) (σ.alloc (.log e 0))) : Res E Γ w K (.slice none 0 0) w := by
  obtain ⟨hx, hR⟩ := hr.new (o' := .log e 0) (l' := ⟨none, tsz E.P e, 0, 0, some 0⟩) (grownBy_self w none) (.inl rfl) (by simp [AObj.lim]) fun hx => ⟨rfl, rfl, Nat.le_refl _, Nat.zero_le _, rfl, rfl⟩
  refine ⟨_, _, _, hx, hR, .lg σ.next [] _ ?_ ?_ (fun _ _ _ e he => by simp at he), h⟩
  · exact .ps [] none 0 0 0 (fun _ _ => Go.undef) (Nat.le_refl 0) (fun h => absurd rfl h) (by intro k e j x hk; simp at hk) (by intro k e j x hk; simp at hk) (by intro k e j x hk; simp at hk)
  · refine .rs σ.next 0 0 0 none 0 (by simp [Ctx.alloc, hr.next]) (Nat.le_refl _) fun l hl => ?_
    simp [Ctx.alloc, hr.next] at hl
    subst hl
    exact ⟨Nat.zero_le _, fun _ => ⟨rfl, rfl, rfl⟩⟩

theorem new_nil_arr {E : Env} {Γ : Ctx} {σ : Store} {w : World} {K : AV → Store → Prop} {e : TypeId} (hr : R E Γ σ w) (h : K (.rs σ.next 0 0 0) (σ.alloc (.arr e 0 []))) : Res E Γ w K (.slice none 0 0) w := by
  obtain ⟨hx, hR⟩ := hr.new (o' := .arr e 0 []) (l' := ⟨none, tsz E.P e, 0, 0, none⟩) (grownBy_self w none) (.inl rfl) rfl fun hx => ⟨rfl, rfl, by simp, by simp, Nat.zero_le _, rfl, rfl⟩
  refine ⟨_, _, _, hx, hR, ?_, h⟩
  refine .rs σ.next 0 0 0 none 0 (by simp [Ctx.alloc, hr.next]) (Nat.le_refl _) fun l hl => ?_
  simp [Ctx.alloc, hr.next] at hl
  subst hl
  exact ⟨Nat.zero_le _, fun _ => ⟨rfl, rfl, rfl⟩⟩

/-! ### One condition for every operation -/
def opK (E : Env) (ow : List Nat) (o : Oper) (f : Nat → AV) (σ : Store) (K : AV → Store → Prop) : Prop :=
  match o.op with
  | .move x => K (aeval E.G f x) σ
  | .assign x => if isNil x && (o.dst.map fun d => ow.contains (d + 3000000)).getD false then (match tk E.P o.type with
      | .slc e => K (.lg σ.next []) (σ.alloc (.log e 0))
      | _ => False)
    else if isNil x && (o.dst.map fun d => ow.contains (d + 4000000)).getD false then (match tk E.P o.type with
      | .slc e => K (.rs σ.next 0 0 0) (σ.alloc (.arr e 0 []))
      | _ => False)
    else K (aeval E.G f x) σ
  | .pick c a b => (match aeval E.G f c with
    | .c (.bool t) => K (if t then aeval E.G f a else aeval E.G f b) σ
    | _ => False)
  | .alloc t => aAlloc E t σ K
  | .box t x => aBox E t (aeval E.G f x) σ K
  | .build t ps => aBuild E t (ps.toList.map fun p => (p.1, aeval E.G f p.2)) fun a => K a σ
  | .buildSlice t n ps => if (o.dst.map fun d => ow.contains (d + 1000000)).getD false then aBuildLit E t n (ps.toList.map fun p => (p.1, aeval E.G f p.2)) fun a => K a σ
    else aBuildSlice E (ownN ow o.dst) t n (ps.toList.map fun p => (p.1, aeval E.G f p.2)) σ K
  | .load t x => aLoad E t (aeval E.G f x) σ fun a => K a σ
  | .store t x y => aStore E t (aeval E.G f x) (aeval E.G f y) σ fun σ' => K (.tup []) σ'
  | .nilCheck x => aNil (aeval E.G f x) fun a => K a σ
  | .binOp op t x y _ => if isNil y = true then aNilEq E op t (aeval E.G f x).rd fun a => K a σ else aBin E (isNilI y) op t (aeval E.G f x) (aeval E.G f y) fun a => K a σ
  | .unOp op _ x => aUn op (aeval E.G f x) fun a => K a σ
  | .convert s d x => aConv2 E (ownN ow o.dst) s d (aeval E.G f x) σ K
  | .makeInterface t x => tk E.P t ≠ .other ∧ tk E.P t ≠ .ifc ∧ K (.ifc t (aeval E.G f x)) σ
  | .makeFunc fn first cap => K (.fn fn (first.toList.map (aeval E.G f)) (cap.toList.map (aeval E.G f))) σ
  | .makeSlice t l c => aMakeSlice E t (aeval E.G f l) (aeval E.G f c) σ K
  | .slice t x lo hi mx => (match mx with
    | none => if (tk E.P t).isArr = true then aSliceA E t (aeval E.G f x) (lo.map (aeval E.G f)) (hi.map (aeval E.G f)) σ K else aSlice E t (aeval E.G f x).rd (lo.map (aeval E.G f)) (hi.map (aeval E.G f)) σ fun a => K a σ
    | some m => aSlice3 E t (aeval E.G f x).rd (lo.map (aeval E.G f)) (hi.map (aeval E.G f)) (some (aeval E.G f m)) σ fun a => K a σ)
  | .fieldAddr t x i => aFieldAddr E t (aeval E.G f x) i fun a => K a σ
  | .field t x i => aField E t (aeval E.G f x) i fun a => K a σ
  | .indexAddr t x i => aIndexAddr E t (aeval E.G f x).rd (aeval E.G f i) σ fun a => K a σ
  | .index t x i => aIndex E t (aeval E.G f x) (aeval E.G f i) fun a => K a σ
  | .extract x i => (match aeval E.G f x with
    | .tup vs => (match vs[i]? with
      | some a => K a σ
      | none => False)
    | _ => False)
  | .call c => aCall E ow (ownN ow o.dst) c f σ K
  | op => opX E op (op.operands.toList.map (aeval E.G f)) σ K

theorem partsRel_of {Γ : Ctx} {w : World} {g : Operand → AV} {ρ : Operand → Value} : ∀ (ps : List (Nat × Operand)), (∀ p ∈ ps, VR Γ w (g p.2) (ρ p.2)) → PartsRel Γ w (ps.map fun p => (p.1, g p.2)) (ps.map fun p => (p.1, ρ p.2))
  | [], _ => trivial
  | p :: ps, h => ⟨rfl, h p (by simp), partsRel_of ps fun q hq => h q (by simp [hq])⟩

theorem ixRel_of {Γ : Ctx} {w : World} {g : Operand → AV} {ρ : Operand → Value} (x : Option Operand) (h : ∀ y, x = some y → VR Γ w (g y) (ρ y)) : IxRel Γ w (x.map g) (x.map ρ) := by
  cases x with
  | none => trivial
  | some y => exact h y rfl

theorem opK_ok {E : Env} {ow : List Nat} {Γ : Ctx} {σ : Store} {w : World} {o : Oper} {f : Nat → AV} {ρ : Operand → Value} {K : AV → Store → Prop} (hr : R E Γ σ w) (hρ : ∀ x ∈ o.op.operands, VR Γ w (aeval E.G f x) (ρ x)) (hcst : ∀ v, ρ (.const v) = v)
    (h : opK E ow o f σ K) : Up E Γ w K ((execOp ρ o).run E.P w) := by
  obtain ⟨dst, op, ty, pos, after, guard⟩ := o
  have hops : ∀ (op : Op), (∀ x ∈ op.operands, VR Γ w (aeval E.G f x) (ρ x)) → VRs Γ w (op.operands.toList.map (aeval E.G f)) (op.operands.toList.map ρ) := fun op hρ => ⟨by simp, fun j a v ha hv => by
    rw [List.getElem?_map, Option.map_eq_some_iff] at ha hv
    obtain ⟨x, hx, rfl⟩ := ha
    obtain ⟨y, hy, rfl⟩ := hv
    rw [hx] at hy
    cases hy
    exact hρ x (Array.mem_toList_iff.1 (List.mem_of_getElem? hx))⟩
  cases op <;> simp only [opK] at h <;> try exact opX_ok hr (hops _ hρ) h
  case move x => exact Res.same hr (hρ x (by simp [Op.operands])) h
  case assign x =>
    split at h
    · rename_i hc
      simp only [Bool.and_eq_true] at hc
      have hx : ρ x = .slice none 0 0 := by
        have hn := hc.1
        unfold isNil at hn
        split at hn
        · exact hcst _
        · cases hn
      split at h
      · rename_i e ht
        have : (execOp ρ ⟨dst, .assign x, ty, pos, after, guard⟩).run E.P w = .ok (.value (.slice none 0 0)) w := by simp [execOp, hx]
        rw [this]
        exact new_nil_log hr h
      · exact h.elim
    · split at h
      · rename_i hc
        simp only [Bool.and_eq_true] at hc
        have hx : ρ x = .slice none 0 0 := by
          have hn := hc.1
          unfold isNil at hn
          split at hn
          · exact hcst _
          · cases hn
        split at h
        · rename_i e ht
          have : (execOp ρ ⟨dst, .assign x, ty, pos, after, guard⟩).run E.P w = .ok (.value (.slice none 0 0)) w := by simp [execOp, hx]
          rw [this]
          exact new_nil_arr hr h
        · exact h.elim
      · exact Res.same hr (hρ x (by simp [Op.operands])) h
  case pick c a b =>
    split at h
    · rename_i t hc
      have hcv := hρ c (by simp [Op.operands])
      rw [hc] at hcv
      generalize hcc : ρ c = cv at hcv
      cases hcv
      have ha := hρ a (by simp [Op.operands])
      have hb := hρ b (by simp [Op.operands])
      have : (execOp ρ ⟨dst, .pick c a b, ty, pos, after, guard⟩).run E.P w = .ok (.value (if t then ρ a else ρ b)) w := by simp [execOp, hcc, asBool]
      rw [this]
      refine Res.same hr (a := if t then aeval E.G f a else aeval E.G f b) ?_ h
      cases t
      · exact hb
      · exact ha
    · exact h.elim
  case alloc t => exact aAlloc_ok hr h
  case box t x => exact aBox_ok hr (hρ x (by simp [Op.operands])) h
  case build t ps =>
    refine aBuild_ok hr ?_ h
    have := partsRel_of (Γ := Γ) (w := w) (g := aeval E.G f) (ρ := ρ) ps.toList (fun p hp => hρ p.2 (by simp only [Op.operands, List.mem_toArray, List.mem_map]; exact ⟨p, hp, rfl⟩))
    simpa using this
  case buildSlice t n ps =>
    have hp : PartsRel Γ w (ps.toList.map fun p => (p.1, aeval E.G f p.2)) (ps.map fun p => (p.1, ρ p.2)).toList := by
      have := partsRel_of (Γ := Γ) (w := w) (g := aeval E.G f) (ρ := ρ) ps.toList (fun p hp => hρ p.2 (by simp only [Op.operands, List.mem_toArray, List.mem_map]; exact ⟨p, hp, rfl⟩))
      simpa using this
    split at h
    · exact aBuildLit_ok hr hp h
    refine aBuildSlice_ok hr ?_ h
    have := partsRel_of (Γ := Γ) (w := w) (g := aeval E.G f) (ρ := ρ) ps.toList (fun p hp => hρ p.2 (by simp only [Op.operands, List.mem_toArray, List.mem_map]; exact ⟨p, hp, rfl⟩))
    simpa using this
  case load t x => exact aLoad_ok hr (hρ x (by simp [Op.operands])) h
  case store t x y => exact aStore_ok hr (hρ x (by simp [Op.operands])) (hρ y (by simp [Op.operands])) h
  case nilCheck x =>
    have hx := hρ x (by simp [Op.operands])
    unfold aNil at h
    split at h
    · rename_i cs hc
      rw [hc] at hx
      generalize hxx : ρ x = xv at hx
      have hx0 := hx
      cases hx
      have : (execOp ρ ⟨dst, .nilCheck x, ty, pos, after, guard⟩).run E.P w = .ok (.value (ρ x)) w := by simp [execOp, hxx]
      rw [this, hxx]
      exact Res.same hr hx0 (by rw [hc] at h; exact h)
    · rename_i hc
      rw [hc] at hx
      generalize hxx : ρ x = xv at hx
      have hx0 := hx
      cases hx
      have : (execOp ρ ⟨dst, .nilCheck x, ty, pos, after, guard⟩).run E.P w = .ok (.value (ρ x)) w := by simp [execOp, hxx]
      rw [this, hxx]
      exact Res.same hr hx0 (by rw [hc] at h; exact h)
    · rename_i hc
      rw [hc] at hx
      generalize hxx : ρ x = xv at hx
      have hx0 := hx
      cases hx
      have : (execOp ρ ⟨dst, .nilCheck x, ty, pos, after, guard⟩).run E.P w = .ok (.value (ρ x)) w := by simp [execOp, hxx]
      rw [this, hxx]
      exact Res.same hr hx0 (by rw [hc] at h; exact h)
    · rename_i hc
      rw [hc] at hx
      generalize hxx : ρ x = xv at hx
      have hx0 := hx
      cases hx
      have : (execOp ρ ⟨dst, .nilCheck x, ty, pos, after, guard⟩).run E.P w = .ok (.value (ρ x)) w := by simp [execOp, hxx]
      rw [this, hxx]
      exact Res.same hr hx0 (by rw [hc] at h; exact h)
    · exact h.elim
  case binOp op t x y yt =>
    split at h
    · rename_i hn
      have hy := hρ y (by simp [Op.operands])
      have hyv : ρ y = .slice none 0 0 := by
        unfold isNil at hn
        split at hn
        · exact hcst _
        · cases hn
      have := aNilEq_ok (ox := x) (oy := y) hr (hρ x (by simp [Op.operands])).rd h
      simpa [execOp, hyv] using this
    · exact aBin_ok (fun hc => by unfold isNilI at hc; split at hc <;> first | rfl | cases hc) hr (hρ x (by simp [Op.operands])) (hρ y (by simp [Op.operands])) h
  case unOp op t x => exact aUn_ok hr (hρ x (by simp [Op.operands])) h
  case convert s d x => exact aConv2_ok hr (hρ x (by simp [Op.operands])) h
  case makeInterface t x =>
    obtain ⟨h1, h2, h⟩ := h
    obtain ⟨d, hd⟩ := under_of_tk h1
    have hx := hρ x (by simp [Op.operands])
    refine Up.value (v := .iface t (ρ x)) (w' := w) ?_ (Res.same hr (.ifc t _ _ hx) h)
    unfold tk at h2
    cases d <;> simp_all [Instr.makeInterface, run_underlying hd]
  case makeFunc fn first cap =>
    refine Up.value (v := .func fn (first.map ρ) (cap.map ρ)) (w' := w) (by simp [Instr.makeFunc]) (Res.same hr ?_ h)
    refine .fn fn _ _ _ _ (by simp) (by simp) ?_ ?_
    · intro j a v ha hv
      rw [List.getElem?_map, Option.map_eq_some_iff] at ha
      obtain ⟨x, hx, rfl⟩ := ha
      have hx' : first[j]? = some x := by simpa using hx
      rw [Array.getElem?_map, hx'] at hv
      cases hv
      exact hρ x (by simp only [Op.operands]; exact Array.mem_append.2 (.inl (Array.mem_of_getElem? hx')))
    · intro j a v ha hv
      rw [List.getElem?_map, Option.map_eq_some_iff] at ha
      obtain ⟨x, hx, rfl⟩ := ha
      have hx' : cap[j]? = some x := by simpa using hx
      rw [Array.getElem?_map, hx'] at hv
      cases hv
      exact hρ x (by simp only [Op.operands]; exact Array.mem_append.2 (.inr (Array.mem_of_getElem? hx')))
  case makeSlice t l c => exact aMakeSlice_ok hr (hρ l (by simp [Op.operands])) (hρ c (by simp [Op.operands])) h
  case slice t x lo hi mx =>
    cases mx with
    | some m =>
      exact aSlice3_ok (mx := some (aeval E.G f m)) (mxv := some (ρ m)) hr (hρ x (by simp [Op.operands])).rd (ixRel_of lo fun y hy => hρ y (by subst hy; simp [Op.operands])) (ixRel_of hi fun y hy => hρ y (by subst hy; simp [Op.operands])) (hρ m (by simp [Op.operands])) h
    | none =>
      by_cases hA : (tk E.P t).isArr = true
      · simp only [if_pos hA] at h
        exact aSliceA_ok hr (hρ x (by simp [Op.operands])) (ixRel_of lo fun y hy => hρ y (by subst hy; simp [Op.operands])) (ixRel_of hi fun y hy => hρ y (by subst hy; simp [Op.operands])) h
      · simp only [if_neg hA] at h
        refine aSlice_ok hr (hρ x (by simp [Op.operands])).rd (ixRel_of lo fun y hy => hρ y (by subst hy; simp [Op.operands])) (ixRel_of hi fun y hy => hρ y (by subst hy; simp [Op.operands])) h
  case fieldAddr t x i => exact aFieldAddr_ok hr (hρ x (by simp [Op.operands])) h
  case field t x i => exact aField_ok hr (hρ x (by simp [Op.operands])) h
  case indexAddr t x i => exact aIndexAddr_ok hr (hρ x (by simp [Op.operands])).rd (hρ i (by simp [Op.operands])) h
  case index t x i => exact aIndex_ok hr (hρ x (by simp [Op.operands])) (hρ i (by simp [Op.operands])) h
  case extract x i =>
    have hx := hρ x (by simp [Op.operands])
    split at h
    · rename_i vs hc
      rw [hc] at hx
      generalize hxx : ρ x = xv at hx
      split at h
      · rename_i a ha
        cases hx with
        | tup cs xs hs hv =>
          have hlt : i < xs.size := by rw [← hs]; exact (List.getElem?_eq_some_iff.1 ha).1
          have hxi := Array.getElem?_eq_getElem hlt
          exact Up.value (v := xs[i]) (w' := w) (by simp [hxx, Instr.extract, hxi]) (Res.same hr (hv i a _ ha hxi) h)
      · exact h.elim
    · exact h.elim
  case call c => exact aCall_ok hr (fun x hx => hρ x (by simpa [Op.operands] using hx)) h
end Go.AW
end

section
set_option linter.unusedVariables false
set_option linter.unusedSimpArgs false
set_option linter.unnecessarySimpa false
namespace Go.AW
open Go

/-! ### A list of operations -/
def aput (N : Nat) (f : Nat → AV) (dst : Option Tmp) (a : AV) (K : (Nat → AV) → Prop) : Prop :=
  match dst with
  | none => K f
  | some d => d < N ∧ K (upd f d a)

def aGuard (ops : Array Oper) (f : Nat → AV) (o : Oper) : Option Bool :=
  match o.guard with
  | none => some true
  | some (j, want) => match (ops[j]?).bind (·.dst) with
    | some d => match f d with
      | .c (.bool b) => some (b == want)
      | .tup _ => some false
      | _ => none
    | none => none

def aops (E : Env) (ow : List Nat) (N : Nat) (ops : Array Oper) : List Oper → (Nat → AV) → Store → ((Nat → AV) → Store → Prop) → Prop
  | [], f, σ, K => K f σ
  | o :: l, f, σ, K => match aGuard ops f o with
    | some g => (g = true → opK E ow o f σ fun a σ' => aput N f o.dst a fun f' => aops E ow N ops l f' σ' K) ∧ (g = false → aput N f o.dst (.tup []) fun f' => aops E ow N ops l f' σ K)
    | none => False

theorem aput_ok {N : Nat} {Γ : Ctx} {w : World} {f : Nat → AV} {a : Act} {dst : Option Tmp} {x : AV} {v : Value} {K : (Nat → AV) → Prop} (ht : TR N Γ w f a.tmps) (hv : VR Γ w x v) (h : aput N f dst x K) :
    ∃ f', TR N Γ w f' (a.put dst v).tmps ∧ K f' ∧ (a.put dst v).defers = a.defers := by
  unfold aput at h
  split at h
  · exact ⟨f, ht, h, rfl⟩
  · exact ⟨_, ht.upd h.1 hv, h.2, rfl⟩

theorem aGuard_ok {N : Nat} {Γ : Ctx} {w : World} {f : Nat → AV} {a : Act} {ops : Array Oper} {o : Oper} {b : Bool} (ht : TR N Γ w f a.tmps) (h : aGuard ops f o = some b) : Region.wanted o (yielded ops a.tmps) = b := by
  unfold aGuard at h
  unfold Region.wanted
  split at h
  · rename_i hg; rw [hg]; cases h; rfl
  · rename_i j want hg
    rw [hg]
    simp only
    split at h
    · rename_i d hd
      split at h
      · rename_i t hf
        cases h
        have hlt : d < N := by
          rcases Nat.lt_or_ge d N with h' | h'
          · exact h'
          · rw [ht.far d h'] at hf; cases hf
        have hv := ht.rel d hlt
        rw [hf] at hv
        have hg' : a.tmps.getD d Go.undef = .bool t := by
          generalize a.tmps.getD d Go.undef = v at hv
          cases hv; rfl
        have hsz := ht.size
        have hget : a.tmps[d]? = some (.bool t) := by
          have h1 : d < a.tmps.size := by rw [hsz]; exact hlt
          rw [Array.getD_eq_getD_getElem?, Array.getElem?_eq_getElem h1] at hg'
          rw [Array.getElem?_eq_getElem h1]
          simpa using hg'
        unfold yielded
        rw [hd]
        simp only [Option.bind_some, hget]
        cases t <;> cases want <;> rfl
      · rename_i vs hf
        cases h
        have hlt : d < N := by
          rcases Nat.lt_or_ge d N with h' | h'
          · exact h'
          · rw [ht.far d h'] at hf; cases hf
        have hv := ht.rel d hlt
        rw [hf] at hv
        have hg' : ∃ xs, a.tmps.getD d Go.undef = .tuple xs := by
          generalize a.tmps.getD d Go.undef = v at hv
          cases hv; exact ⟨_, rfl⟩
        obtain ⟨xs, hg'⟩ := hg'
        have hsz := ht.size
        have hget : a.tmps[d]? = some (.tuple xs) := by
          have h1 : d < a.tmps.size := by rw [hsz]; exact hlt
          rw [Array.getD_eq_getD_getElem?, Array.getElem?_eq_getElem h1] at hg'
          rw [Array.getElem?_eq_getElem h1]
          simpa using hg'
        unfold yielded
        rw [hd]
        simp only [Option.bind_some, hget]
        rfl
      · cases h
    · cases h

/-! ### The marks that ranges over functions leave -/
def mark (D : Nat) : Deferred := { target := .collected D, args := #[] }
/-- What a piece of code starts from: the deferred calls, how many blocks there were when the function began, variables that are to stay as they are. -/
structure Ds0 where
  ds : List Deferred
  hb : Nat
  kp : List (Nat × Value)
  st : Bool := false
/-- The deferred calls are these, behind marks of empty blocks that were made since the function began. -/
def Marks (w : World) (ds0 : Ds0) (a : Act) : Prop := (ds0.hb ≤ w.heap.size ∧ ∃ ms : List Nat, a.defers = ms.map mark ++ ds0.ds ∧ ms.Nodup ∧ ∀ D ∈ ms, ds0.hb ≤ D ∧ w.heap[D]? = some (.deferred (some []))) ∧ (∀ p ∈ ds0.kp, a.tmps[p.1]? = some p.2) ∧ (ds0.st = true → a.defers = ds0.ds)
theorem Marks.refl (w : World) (a : Act) (st : Bool := false) : Marks w ⟨a.defers, w.heap.size, [], st⟩ a := ⟨⟨Nat.le_refl _, [], rfl, by simp, by simp⟩, by simp, fun _ => rfl⟩
/-- The operation writes none of them. -/
def kpOk (ds0 : Ds0) (dst : Option Tmp) : Prop := ∀ d, dst = some d → ∀ p ∈ ds0.kp, p.1 ≠ d
theorem Marks.put {w : World} {ds0 : Ds0} {a : Act} (h : Marks w ds0 a) {dst : Option Tmp} {v : Value} (hk : kpOk ds0 dst) : Marks w ds0 (a.put dst v) := by
  cases dst with
  | none => exact h
  | some d =>
    refine ⟨h.1, fun p hp => ?_, h.2.2⟩
    have := h.2.1 p hp
    show (a.tmps.setIfInBounds d v)[p.1]? = some p.2
    rw [Array.getElem?_setIfInBounds_ne (fun e => hk d rfl p hp e.symm)]
    exact this
/-- What the store owns is cells, a map, a loop's record or an iterator. -/
theorem R.owns_obj {E : Env} {Γ : Ctx} {σ : Store} {w : World} (h : R E Γ σ w) {b : Nat} (ho : Γ.owns b) : ∃ o, w.heap[b]? = some o ∧ ∀ x, o ≠ .deferred x := by
  obtain ⟨i, l, hl, hb⟩ := ho
  have hd := h.dom i
  rw [hl] at hd
  obtain ⟨o, ho⟩ := Option.isSome_iff_exists.1 hd.symm
  have hr := h.objs i o l ho hl
  cases o with
  | arr T g es =>
    simp only [ObjRel, hb] at hr
    obtain ⟨_, _, _, _, _, xs, fr, hx, _⟩ := hr
    exact ⟨_, hx, by simp⟩
  | map ents born clock =>
    obtain ⟨_, b', es, hb', hx, _⟩ := hr
    obtain rfl : b' = b := by rw [hb'] at hb; exact Option.some.inj hb
    exact ⟨_, hx, by simp⟩
  | log T n =>
    simp only [ObjRel, hb] at hr
    obtain ⟨_, _, _, _, xs, fr, hx, _⟩ := hr
    exact ⟨_, hx, by simp⟩
  | lp b' L vs =>
    obtain ⟨_, hb', hx, _⟩ := hr
    obtain rfl : b' = b := by rw [hb'] at hb; exact Option.some.inj hb
    exact ⟨_, hx, by simp⟩
  | it o =>
    obtain ⟨_, b', hb', hx, hw⟩ := hr
    obtain rfl : b' = b := by rw [hb'] at hb; exact Option.some.inj hb
    exact ⟨_, hx, by rintro x rfl; simp [itOk] at hw⟩
  | mi m since seen last =>
    obtain ⟨_, b', bm, hb', hx, _⟩ := hr
    obtain rfl : b' = b := by rw [hb'] at hb; exact Option.some.inj hb
    exact ⟨_, hx, by simp⟩
theorem R.mark_stays {E : Env} {n : Nat} {Γ Γ' : Ctx} {σ : Store} {w w' : World} (hr : R E Γ σ w) (hx : ExtN n Γ w Γ' w') {D : Nat} {x : Option (List Deferred)} (h : w.heap[D]? = some (.deferred x)) : w'.heap[D]? = some (.deferred x) := by
  have hlt := (Array.getElem?_eq_some_iff.1 h).1
  have hno : ¬ Γ.owns D := fun ho => by
    obtain ⟨o, h1, h2⟩ := hr.owns_obj ho
    rw [h] at h1; cases h1; exact h2 _ rfl
  rcases (hx.sealed D hlt hno).1 with e | ⟨_, xs, t, fr, fr', e, _⟩
  · rw [e]; exact h
  · rw [h] at e; cases e
theorem Marks.ext {E : Env} {n : Nat} {Γ Γ' : Ctx} {σ : Store} {w w' : World} {ds0 : Ds0} {a : Act} (h : Marks w ds0 a) (hr : R E Γ σ w) (hx : ExtN n Γ w Γ' w') : Marks w' ds0 a := by
  obtain ⟨⟨h0, ms, h1, h2, h3⟩, h4⟩ := h
  exact ⟨⟨Nat.le_trans h0 hx.size, ms, h1, h2, fun D hD => ⟨(h3 D hD).1, hr.mark_stays hx (h3 D hD).2⟩⟩, h4⟩

/-! ### Operations, in a function's own frame or in a round's -/
def PanRes (E : Env) (n : Nat) (Γ0 : Ctx) (w0 : World) (v : Value) (w : World) : Prop := ∃ Γ a σ, ExtN n Γ0 w0 Γ w ∧ R E Γ σ w ∧ VR Γ w a v ∧ E.pan a σ
theorem PanRes.of_res {E : Env} {n : Nat} {Γ0 Γ : Ctx} {w0 w w' : World} {v : Value} (hx : ExtN n Γ0 w0 Γ w) (h : Res E Γ w E.pan v w') : PanRes E n Γ0 w0 v w' := by
  obtain ⟨Γ', a, σ', h1, h2, h3, h4⟩ := h
  exact ⟨Γ', a, σ', hx.trans (h1.mono hx.le'), h2, h3, h4⟩
theorem Res.ext {E : Env} {Γ : Ctx} {w w' : World} {K : AV → Store → Prop} {v : Value} (h : Res E Γ w K v w') : ∃ Γ', ExtN Γ.next Γ w Γ' w' := by
  obtain ⟨Γ', a, σ', h1, _⟩ := h
  exact ⟨Γ', h1⟩
theorem opK_defer {E : Env} {ow : List Nat} {o : Oper} {f : Nat → AV} {σ : Store} {K : AV → Store → Prop} (h : opK E ow o f σ K) : ∀ c, o.op ≠ .defer c := by
  intro c hc
  obtain ⟨dst, op, ty, pos, after, guard⟩ := o
  simp only at hc
  subst hc
  simp [opK, opX] at h
/-- What an operation's condition gives, as the machine wants it. -/
theorem Up.upon {E : Env} {Γ : Ctx} {w : World} {K : AV → Store → Prop} {rd : Option Nat} {o : Oper} {a : Act} {next : Act → World → Prop} {Q : Exit → Act → World → Prop} (hup : Up E Γ w K ((execOp a.eval o).run E.P w)) (hnd : ∀ c, o.op ≠ .defer c)
    (hstep : ∀ v w', Res E Γ w K v w' → next (a.put o.dst v) w') (hpan : ∀ v w', Res E Γ w E.pan v w' → Q (.panic [{ v := v, recovered := false }]) a w') : o.wpIn (wideR rd) 0 E.P a w next Q := by
  refine ⟨fun _ _ => trivial, ?_⟩
  rw [Oper.semAt_eq _ _ _ hnd]
  generalize (execOp a.eval o).run E.P w = r at hup
  unfold Up at hup
  have hends : ∀ e w'', Ends E Γ w K e w'' → (match e with
      | .returned v => next (a.put o.dst v) w''
      | .panicked chain => Q (.panic chain) a w''
      | .outgrown => LetsOut Q) := by
    rintro e w'' (⟨v, rfl, h⟩ | ⟨v, rfl, h⟩)
    · exact hstep v w'' h
    · exact hpan v w'' h
  split at hup
  · exact hstep _ _ hup
  · exact hstep _ _ hup
  · refine ⟨fun h => (by cases h), callsIn_rd (rd := rd) (n := 0) (callsIn_wide.2 (hup.mono fun e w'' he => ?_))⟩
    have := hends e w'' he
    cases e <;> exact this
  · refine ⟨fun h => (by cases h), roundIn_rd (rd := rd) (hup.mono fun e w'' he => ?_)⟩
    have := hends e w'' he
    cases e <;> exact this
  · exact hpan _ _ hup
  · exact hup.elim

theorem aops_ok {E : Env} {ow : List Nat} {N n : Nat} {ops : Array Oper} {Γ0 : Ctx} {w0 : World} {rd : Option Nat} {ds0 : Ds0} {Q : Exit → Act → World → Prop} {K : (Nat → AV) → Store → Prop}
    (hQ : ∀ Γ w f σ a, ExtN n Γ0 w0 Γ w → R E Γ σ w → TR N Γ w f a.tmps → Marks w ds0 a → K f σ → Q .normal a w)
    (hP : ∀ v w a, PanRes E n Γ0 w0 v w → Marks w ds0 a → Q (.panic [{ v := v, recovered := false }]) a w) :
    ∀ (l : List Oper) (f : Nat → AV) (σ : Store) (Γ : Ctx) (w : World) (a : Act), ExtN n Γ0 w0 Γ w → R E Γ σ w → TR N Γ w f a.tmps → Marks w ds0 a → (∀ o ∈ l, kpOk ds0 o.dst) → aops E ow N ops l f σ K → wpListIn (wideR rd) 0 E.P ops Q l a w := by
  intro l
  induction l with
  | nil => intro f σ Γ w a hx hr ht hd _ h; exact hQ Γ w f σ a hx hr ht hd h
  | cons o l ih =>
    intro f σ Γ w a hx hr ht hd hw h
    unfold aops at h
    unfold wpListIn
    split at h
    · rename_i g hg
      obtain ⟨h1, h2⟩ := h
      cases g with
      | true =>
        have h := h1 rfl
        rw [if_pos (aGuard_ok ht hg)]
        refine Up.upon (opK_ok (ρ := a.eval) hr (fun x _ => ht.eval hr x) (fun _ => rfl) h) (opK_defer h) ?_ ?_
        · rintro v w' ⟨Γ', x, σ', h1, h2, h3, h4⟩
          obtain ⟨f', ht', hk, hd'⟩ := aput_ok (ht.ext h1) h3 h4
          exact ih f' σ' Γ' w' _ (hx.trans (h1.mono hx.le')) h2 ht' ((hd.ext hr h1).put (hw o (by simp))) (fun o ho => hw o (by simp [ho])) hk
        · intro v w' h
          obtain ⟨Γ', h1⟩ := h.ext
          exact hP v w' a (.of_res hx h) (hd.ext hr h1)
      | false =>
        have h := h2 rfl
        rw [if_neg (by rw [aGuard_ok ht hg]; simp)]
        obtain ⟨f', ht', hk, hd'⟩ := aput_ok ht (VR.undef_ Γ w) h
        exact ⟨fun _ _ => trivial, ih f' σ Γ w _ hx hr ht' (hd.put (hw o (by simp))) (fun o ho => hw o (by simp [ho])) hk⟩
    · exact h.elim

/-! ### Code -/
inductive AExit where
  | normal | exit (id : Nat) | goto (l : Nat) | ret

def ExRel : AExit → Exit → Prop
  | .normal, .normal => True
  | .exit i, .exit j => i = j
  | .goto i, .goto j => i = j
  | .ret, .ret => True
  | _, _ => False

/-- What holds behind a piece of code; or it panics with what the environment allows. -/
def Post (E : Env) (n N : Nat) (Γ0 : Ctx) (w0 : World) (ds0 : Ds0) (Q : AExit → (Nat → AV) → Store → Prop) (ex : Exit) (a : Act) (w : World) : Prop :=
  (∃ Γ f σ x, ExRel x ex ∧ ExtN n Γ0 w0 Γ w ∧ R E Γ σ w ∧ TR N Γ w f a.tmps ∧ Marks w ds0 a ∧ Q x f σ) ∨
  (∃ v, ex = .panic [{ v := v, recovered := false }] ∧ PanRes E n Γ0 w0 v w ∧ Marks w ds0 a)

theorem Post.trans {E : Env} {n N : Nat} {Γ0 Γ1 : Ctx} {w0 w1 : World} {ds0 : Ds0} {Q : AExit → (Nat → AV) → Store → Prop} {ex : Exit} {a : Act} {w : World} (hx : ExtN n Γ0 w0 Γ1 w1) (h : Post E n N Γ1 w1 ds0 Q ex a w) : Post E n N Γ0 w0 ds0 Q ex a w := by
  rcases h with ⟨Γ, f, σ, x, h1, h2, h3⟩ | ⟨v, h1, ⟨Γ, b, σ, h2, h3⟩, h4⟩
  · exact .inl ⟨Γ, f, σ, x, h1, hx.trans h2, h3⟩
  · exact .inr ⟨v, h1, ⟨Γ, b, σ, hx.trans h2, h3⟩, h4⟩

/-- No range over a function in it (such a range, in a round of another one, would read that one's record). -/
def noRF : Code → Bool
  | .seq a b => noRF a && noRF b
  | .cond _ a b => noRF a && noRF b
  | .block _ c => noRF c
  | .loop c => noRF c
  | .scope c => noRF c
  | .rangeFunc .. => false
  | _ => true
/-- The code writes this variable (of the frame's own). -/
def wrC (t : Nat) : Code → Bool
  | .region _ ops _ => ops.toList.any fun o => o.dst == some t
  | .seq a b => wrC t a || wrC t b
  | .cond _ a b => wrC t a || wrC t b
  | .block _ c => wrC t c
  | .loop c => wrC t c
  | .scope c => wrC t c
  | _ => false
def COk (rd : Option Nat) (ds0 : Ds0) (c : Code) : Prop := (rd = none ∨ noRF c = true) ∧ (∀ p ∈ ds0.kp, wrC p.1 c = false) ∧ (ds0.st = true → noRF c = true)
theorem COk.sub {rd : Option Nat} {ds0 : Ds0} {c d : Code} (h : COk rd ds0 c) (hc : noRF c = true → noRF d = true) (hw : ∀ t, wrC t c = false → wrC t d = false) : COk rd ds0 d := ⟨h.1.imp_right hc, fun p hp => hw _ (h.2.1 p hp), fun e => hc (h.2.2 e)⟩
theorem COk.seq1 {rd : Option Nat} {ds0 : Ds0} {a b : Code} (h : COk rd ds0 (.seq a b)) : COk rd ds0 a := h.sub (fun e => by simp [noRF] at e; exact e.1) (fun t e => by simp [wrC] at e; exact e.1)
theorem COk.seq2 {rd : Option Nat} {ds0 : Ds0} {a b : Code} (h : COk rd ds0 (.seq a b)) : COk rd ds0 b := h.sub (fun e => by simp [noRF] at e; exact e.2) (fun t e => by simp [wrC] at e; exact e.2)
theorem COk.cond1 {rd : Option Nat} {ds0 : Ds0} {o : Operand} {a b : Code} (h : COk rd ds0 (.cond o a b)) : COk rd ds0 a := h.sub (fun e => by simp [noRF] at e; exact e.1) (fun t e => by simp [wrC] at e; exact e.1)
theorem COk.cond2 {rd : Option Nat} {ds0 : Ds0} {o : Operand} {a b : Code} (h : COk rd ds0 (.cond o a b)) : COk rd ds0 b := h.sub (fun e => by simp [noRF] at e; exact e.2) (fun t e => by simp [wrC] at e; exact e.2)
theorem COk.ops {rd : Option Nat} {ds0 : Ds0} {id : Nat} {ops : Array Oper} {d : Bool} (h : COk rd ds0 (.region id ops d)) : ∀ o ∈ ops.toList, kpOk ds0 o.dst := by
  intro o ho t ht p hp e
  have := h.2.1 p hp
  simp only [wrC, List.any_eq_false] at this
  exact this o ho (by simp [ht, e])
theorem COk.opAt {rd : Option Nat} {ds0 : Ds0} {id : Nat} {ops : Array Oper} {d : Bool} (h : COk rd ds0 (.region id ops d)) (i : Nat) (o : Oper) (ho : ops[i]? = some o) : kpOk ds0 o.dst :=
  h.ops o (by rw [← Array.getElem?_toList] at ho; exact List.mem_of_getElem? ho)
def AW (E : Env) (n N : Nat) (c : Code) (f : Nat → AV) (σ : Store) (Q : AExit → (Nat → AV) → Store → Prop) : Prop :=
  ∀ (rd : Option Nat) (ds0 : Ds0) (Γ : Ctx) (w : World) (a : Act), COk rd ds0 c → n ≤ Γ.next → R E Γ σ w → TR N Γ w f a.tmps → Marks w ds0 a → c.wpIn (wideR rd) 0 E.P (Post E n N Γ w ds0 Q) a w

def AThen (next : (Nat → AV) → Store → Prop) (Q : AExit → (Nat → AV) → Store → Prop) : AExit → (Nat → AV) → Store → Prop
  | .normal, f, σ => next f σ
  | e, f, σ => Q e f σ

def ABlock (id : Nat) (Q : AExit → (Nat → AV) → Store → Prop) : AExit → (Nat → AV) → Store → Prop
  | .exit id', f, σ => if id' = id then Q .normal f σ else Q (.exit id') f σ
  | e, f, σ => Q e f σ

section
variable {E : Env} {n N : Nat} {f : Nat → AV} {σ : Store} {Q : AExit → (Nat → AV) → Store → Prop}

theorem Post.mono {Γ : Ctx} {w0 : World} {ds0 : Ds0} {Q' : AExit → (Nat → AV) → Store → Prop} {ex : Exit} {a : Act} {w : World} (h : Post E n N Γ w0 ds0 Q ex a w) (hq : ∀ e f σ, Q e f σ → Q' e f σ) : Post E n N Γ w0 ds0 Q' ex a w := by
  rcases h with ⟨Γ', f', σ', x, h1, h2, h3, h4, h5, h6⟩ | h
  · exact .inl ⟨Γ', f', σ', x, h1, h2, h3, h4, h5, hq _ _ _ h6⟩
  · exact .inr h

theorem AW.mono {c : Code} {Q' : AExit → (Nat → AV) → Store → Prop} (h : AW E n N c f σ Q) (hq : ∀ e f σ, Q e f σ → Q' e f σ) : AW E n N c f σ Q' :=
  fun rd ds0 Γ w a hrd hn hr ht hd => wpIn_mono (h rd ds0 Γ w a hrd hn hr ht hd) fun _ _ _ hp => hp.mono hq

theorem Post.here {Γ : Ctx} {w : World} {ds0 : Ds0} {a : Act} {x : AExit} {ex : Exit} (hn : n ≤ Γ.next) (hr : R E Γ σ w) (ht : TR N Γ w f a.tmps) (hd : Marks w ds0 a) (hx : ExRel x ex) (hq : Q x f σ) : Post E n N Γ w ds0 Q ex a w :=
  .inl ⟨Γ, f, σ, x, hx, ExtN.refl Γ w hn, hr, ht, hd, hq⟩

theorem AW.skip (h : Q .normal f σ) : AW E n N .skip f σ Q := fun rd ds0 Γ w a _ hn hr ht hd => wpIn_skip (Post.here hn hr ht hd (x := .normal) trivial h)
theorem AW.label {l : Nat} (h : Q .normal f σ) : AW E n N (.label l) f σ Q := fun rd ds0 Γ w a _ hn hr ht hd => wpIn_label (Post.here hn hr ht hd (x := .normal) trivial h)
theorem AW.exit {i : Nat} (h : Q (.exit i) f σ) : AW E n N (.exit i) f σ Q := fun rd ds0 Γ w a _ hn hr ht hd => wpIn_exit (Post.here hn hr ht hd (x := .exit i) rfl h)
theorem AW.ret (h : Q .ret f σ) : AW E n N .ret f σ Q := fun rd ds0 Γ w a _ hn hr ht hd => wpIn_ret (Post.here hn hr ht hd (x := .ret) trivial h)

theorem AW.seq {c d : Code} (h : AW E n N c f σ (AThen (fun f σ => AW E n N d f σ Q) Q)) : AW E n N (.seq c d) f σ Q := by
  intro rd ds0 Γ w a hrd hn hr ht hd
  refine wpIn_seq (wpIn_mono (h rd ds0 Γ w a hrd.seq1 hn hr ht hd) ?_)
  rintro e a' w' (⟨Γ', f', σ', x, h1, h2, h3, h4, h5, h6⟩ | h)
  · cases e with
    | normal =>
      cases x <;> first | exact h1.elim | skip
      exact wpIn_mono (h6 rd ds0 Γ' w' a' hrd.seq2 h2.le' h3 h4 h5) fun e a w hp => Post.trans h2 hp
    | exit i => cases x <;> first | exact h1.elim | exact .inl ⟨Γ', f', σ', _, h1, h2, h3, h4, h5, h6⟩
    | goto i => cases x <;> first | exact h1.elim | exact .inl ⟨Γ', f', σ', _, h1, h2, h3, h4, h5, h6⟩
    | ret => cases x <;> first | exact h1.elim | exact .inl ⟨Γ', f', σ', _, h1, h2, h3, h4, h5, h6⟩
    | panic ch => cases x <;> exact h1.elim
    | outgrown => cases x <;> exact h1.elim
  · obtain ⟨v, rfl, h2⟩ := h
    exact .inr ⟨v, rfl, h2⟩

/-- The same, what follows behind a name. -/
theorem AW.seq_k {c d : Code} (h : ∀ K : (Nat → AV) → Store → Prop, (∀ f σ, AW E n N d f σ Q → K f σ) → AW E n N c f σ (AThen K Q)) : AW E n N (.seq c d) f σ Q := AW.seq (h _ fun _ _ h => h)

theorem AW.block {i : Nat} {c : Code} (h : AW E n N c f σ (ABlock i Q)) : AW E n N (.block i c) f σ Q := by
  intro rd ds0 Γ w a hrd hn hr ht hd
  refine wpIn_block (wpIn_mono (h rd ds0 Γ w a hrd hn hr ht hd) ?_)
  rintro e a' w' (⟨Γ', f', σ', x, h1, h2, h3, h4, h5, h6⟩ | h)
  · cases e with
    | exit j =>
      cases x <;> first | exact h1.elim | skip
      cases h1
      simp only [Exit.inBlock, ABlock] at h6 ⊢
      split
      · rw [if_pos (by assumption)] at h6; exact .inl ⟨Γ', f', σ', .normal, trivial, h2, h3, h4, h5, h6⟩
      · rw [if_neg (by assumption)] at h6; exact .inl ⟨Γ', f', σ', .exit _, rfl, h2, h3, h4, h5, h6⟩
    | normal => cases x <;> first | exact h1.elim | exact .inl ⟨Γ', f', σ', _, h1, h2, h3, h4, h5, h6⟩
    | goto i => cases x <;> first | exact h1.elim | exact .inl ⟨Γ', f', σ', _, h1, h2, h3, h4, h5, h6⟩
    | ret => cases x <;> first | exact h1.elim | exact .inl ⟨Γ', f', σ', _, h1, h2, h3, h4, h5, h6⟩
    | panic ch => cases x <;> exact h1.elim
    | outgrown => cases x <;> exact h1.elim
  · obtain ⟨v, rfl, h2⟩ := h
    exact .inr ⟨v, rfl, h2⟩

theorem AW.cond {o : Operand} {c d : Code} {b : Bool} (hb : aeval E.G f o = .c (.bool b)) (ht : b = true → AW E n N c f σ Q) (hf : b = false → AW E n N d f σ Q) : AW E n N (.cond o c d) f σ Q := by
  intro rd ds0 Γ w a hrd hn hr ht' hd
  have hv := ht'.eval hr o
  rw [hb] at hv
  have he : a.eval o = .bool b := by generalize a.eval o = v at hv; cases hv; rfl
  cases b with
  | true => exact wpIn_cond_true he (ht rfl rd ds0 Γ w a hrd.cond1 hn hr ht' hd)
  | false => exact wpIn_cond_false he (hf rfl rd ds0 Γ w a hrd.cond2 hn hr ht' hd)

theorem AW.region {ow : List Nat} {id : Nat} {l : List Oper} (h : aops E ow N l.toArray l f σ (fun f σ => Q .normal f σ)) : AW E n N (.region id l.toArray false) f σ Q := by
  intro rd ds0 Γ w a hrd hn hr ht hd
  refine wpIn_region_lit (aops_ok (E := E) (ow := ow) (N := N) (n := n) (Γ0 := Γ) (w0 := w) (rd := rd) (ds0 := ds0) ?_ ?_ l f σ Γ w a (ExtN.refl Γ w hn) hr ht hd hrd.ops h)
  · intro Γ' w' f' σ' a' hx hr' ht' hd' hk
    exact .inl ⟨Γ', f', σ', .normal, trivial, hx, hr', ht', hd', hk⟩
  · intro v w' a' hp hm
    exact .inr ⟨v, rfl, hp, hm⟩

/-! ### What may be forgotten -/
/-- An abstract value, with what the store knows of it, written down otherwise: an object that is dropped from the store is written no more. -/
inductive SR (σ σ2 : Store) : AV → AV → Prop
  | refl (a : AV) : SR σ σ2 a a
  | junk (a : AV) : SR σ σ2 a .junk
  | nl : SR σ σ2 .nl (.ps [])
  | rs (i g off len : Nat) (T : TypeId) (es es' : List AV) (hi : σ.get i = some (.arr T g es)) (h2 : σ2.get i = none) (hle : off + len ≤ es.length) (hl : es'.length = len)
      (hcl : ∀ (k : Nat) (a b : AV), es[off + k]? = some a → es'[k]? = some b → a.cells.length = b.cells.length)
      (h : ∀ (k : Nat) (a b : AV) (j : Nat) (x y : AV), es[off + k]? = some a → es'[k]? = some b → a.cells[j]? = some x → b.cells[j]? = some y → SR σ σ2 x y) : SR σ σ2 (.rs i g off len) (.ps es')
  | rc (i g off len cap : Nat) (b : AV) (h : SR σ σ2 (.rs i g off len) b) : SR σ σ2 (.rc i g off len cap) b
  | rp (i g k off : Nat) (T : TypeId) (es : List AV) (e : AV) (cs' : List AV) (hi : σ.get i = some (.arr T g es)) (h2 : σ2.get i = none) (hk : es[k]? = some e) (hl : cs'.length = (e.cells.drop off).length)
      (h : ∀ (j : Nat) (x y : AV), (e.cells.drop off)[j]? = some x → cs'[j]? = some y → SR σ σ2 x y) : SR σ σ2 (.rp i g k off) (.pp cs')
  | agg (cs cs' : List AV) (hl : cs.length = cs'.length) (h : ∀ (j : Nat) (x y : AV), cs[j]? = some x → cs'[j]? = some y → SR σ σ2 x y) : SR σ σ2 (.agg cs) (.agg cs')
  | tup (cs cs' : List AV) (hl : cs.length = cs'.length) (h : ∀ (j : Nat) (x y : AV), cs[j]? = some x → cs'[j]? = some y → SR σ σ2 x y) : SR σ σ2 (.tup cs) (.tup cs')
  | ps (es es' : List AV) (hl : es.length = es'.length) (hcl : ∀ (k : Nat) (a b : AV), es[k]? = some a → es'[k]? = some b → a.cells.length = b.cells.length)
      (h : ∀ (k : Nat) (a b : AV) (j : Nat) (x y : AV), es[k]? = some a → es'[k]? = some b → a.cells[j]? = some x → b.cells[j]? = some y → SR σ σ2 x y) :
      SR σ σ2 (.ps es) (.ps es')
  | ifc (t : TypeId) (a a' : AV) (h : SR σ σ2 a a') : SR σ σ2 (.ifc t a) (.ifc t a')
  | lg (i : Nat) (es es' : List AV) (h : SR σ σ2 (.ps es) (.ps es')) : SR σ σ2 (.lg i es) (.ps es')
  | lgl (i : Nat) (es es' : List AV) (hl : es.length = es'.length) (hcl : ∀ (k : Nat) (a b : AV), es[k]? = some a → es'[k]? = some b → a.cells.length = b.cells.length) (h : SR σ σ2 (.ps es) (.ps es')) : SR σ σ2 (.lg i es) (.lg i es')

/-- The store with some objects less. -/
def Store.sub (σ2 σ : Store) : Prop := σ2.next = σ.next ∧ ∀ i o, σ2.get i = some o → σ.get i = some o

def Ctx.only (Γ : Ctx) (σ2 : Store) : Ctx := ⟨fun i => if (σ2.get i).isSome then Γ.get i else none, Γ.next, Γ.base⟩

theorem Ctx.only_some {Γ : Ctx} {σ2 : Store} {i : Nat} {l : Loc} (h : (Γ.only σ2).get i = some l) : Γ.get i = some l ∧ (σ2.get i).isSome = true := by
  unfold Ctx.only at h
  simp only at h
  split at h
  · rename_i hs; exact ⟨h, hs⟩
  · cases h

theorem Ctx.only_ext {m : Nat} (Γ : Ctx) (σ2 : Store) (w : World) (hm : m ≤ Γ.next) : ExtN m Γ w (Γ.only σ2) w := by
  refine ⟨rfl, rfl, rfl, Nat.le_refl _, fun b _ ho => ⟨.inl rfl, fun ⟨i, l, hi, hb⟩ => ho ⟨i, l, (Ctx.only_some hi).1, hb⟩⟩, fun b k _ hf => ⟨fun _ hv => hv, fun i l hi hb => hf i l (Ctx.only_some hi).1 hb⟩, fun i l _ hi => ⟨l, (Ctx.only_some hi).1, Nat.le_refl _, fun _ => rfl⟩, hm, hm, rfl⟩

theorem VR.only {Γ : Ctx} {σ2 : Store} {w : World} {a : AV} {v : Value} (h : VR Γ w a v) : VR (Γ.only σ2) w a v := h.ext (Ctx.only_ext Γ σ2 w (Nat.le_refl _))

/-- The block of a dropped object is owned no more. -/
theorem not_owned {E : Env} {Γ : Ctx} {σ σ2 : Store} {w : World} (hr : R E Γ σ w) {i b : Nat} {l : Loc} (hl : Γ.get i = some l) (hb : l.blk = some b) (h2 : σ2.get i = none) : ¬ (Γ.only σ2).owns b := by
  rintro ⟨j, lj, hj, hjb⟩
  obtain ⟨h1, h3⟩ := Ctx.only_some hj
  have := hr.inj j i lj l b h1 hl hjb hb
  subst this
  rw [h2] at h3; cases h3

theorem VR.sr {E : Env} {Γ : Ctx} {σ σ2 : Store} {w : World} (hr : R E Γ σ w) {a a' : AV} (hs : SR σ σ2 a a') : ∀ {v : Value}, VR Γ w a v → VR (Γ.only σ2) w a' v := by
  induction hs with
  | refl a => exact fun h => h.only
  | junk a => exact fun _ => .junk _
  | nl =>
    intro v h
    cases h with
    | nl a => exact .ps [] a 0 0 0 (fun _ _ => Go.undef) (Nat.le_refl 0) (fun h => absurd rfl h) (by intro k e j x hk; simp at hk) (by intro k e j x hk; simp at hk) (by intro k e j x hk; simp at hk)
  | rc i g off len cap b _ ih =>
    intro v h
    obtain ⟨_, _, _, hrs⟩ := rc_inv h
    exact ih hrs
  | rs i g off len T es es' hi h2 hle hl hcl hh ih =>
    intro v h
    obtain ⟨ad, cap, rfl, hin, hlc, hat⟩ := h.rs_inv
    obtain ⟨l, hl', ho, _⟩ := hr.loc hi
    simp only [ObjRel] at ho
    obtain ⟨o1, o2, o3, o4, o5, o6⟩ := ho
    have hat' := (hat l hl').2 o1
    unfold Loc.rsAt at hat'
    cases hb : l.blk with
    | none =>
      simp only [hb] at hat'
      obtain ⟨rfl, rfl, rfl⟩ := hat'
      have : es' = [] := List.eq_nil_of_length_eq_zero hl
      subst this
      exact .ps [] ad 0 0 0 (fun _ _ => Go.undef) (Nat.le_refl 0) (fun h => absurd rfl h) (by intro k e j x hk; simp at hk) (by intro k e j x hk; simp at hk) (by intro k e j x hk; simp at hk)
    | some b =>
      simp only [hb] at hat' o6
      obtain ⟨a1, a2, a3⟩ := hat'
      obtain ⟨xs, fr, q1, q2, q3, q4⟩ := o6
      subst hl
      have hel : ∀ (k : Nat) (e : AV), es'[k]? = some e → ∃ a, es[off + k]? = some a ∧ a.cells.length = e.cells.length ∧ e.cells.length = l.sz := by
        intro k e hk
        have hlt := (List.getElem?_eq_some_iff.1 hk).1
        have ha := List.getElem?_eq_getElem (l := es) (i := off + k) (by omega)
        refine ⟨_, ha, hcl k _ e ha hk, ?_⟩
        rw [← hcl k _ e ha hk]
        exact o3 _ (List.mem_of_getElem? ha)
      have hcell : ∀ (k : Nat) (e : AV) (j : Nat) (x : AV), es'[k]? = some e → e.cells[j]? = some x → xs[(off + k) * l.sz + j]? = some (xs.getD ((off + k) * l.sz + j) Go.undef) ∧ (xs.getD ((off + k) * l.sz + j) Go.undef).oneCell' = true ∧ VR (Γ.only σ2) w x (xs.getD ((off + k) * l.sz + j) Go.undef) := by
        intro k e j x hk hj
        obtain ⟨a, ha, hal, hsz⟩ := hel k e hk
        have hjl : j < a.cells.length := by rw [hal]; exact (List.getElem?_eq_some_iff.1 hj).1
        have hy := List.getElem?_eq_getElem hjl
        obtain ⟨u, u1, u2, u3⟩ := q4 (off + k) a j _ ha hy
        have : xs.getD ((off + k) * l.sz + j) Go.undef = u := by rw [Array.getD_eq_getD_getElem?, u1]; rfl
        rw [this]
        exact ⟨u1, u2, ih k a e j _ x ha hk hy hj u3⟩
      refine .ps es' ad cap b (off * l.sz) (fun k j => xs.getD ((off + k) * l.sz + j) Go.undef) hlc (fun hne => ?_) ?_ ?_ ?_
      · have hpos : 0 < es'.length := by cases es' with | nil => exact absurd rfl hne | cons _ _ => simp
        refine ⟨?_, (Array.getElem?_eq_some_iff.1 q1).1⟩
        rcases a2 with a2 | a2
        · omega
        · exact a2
      · intro k e j x hk hj
        obtain ⟨a, ha, hal, hsz⟩ := hel k e hk
        rw [hsz]
        have := (hcell k e j x hk hj).1
        refine ⟨?_, Ctx.fixd_of (not_owned hr hl' hb h2)⟩
        simp only [World.cell?, q1]
        rw [show off * l.sz + k * l.sz + j = (off + k) * l.sz + j by rw [Nat.add_mul]]
        simpa using this
      · intro k e j x hk hj; exact (hcell k e j x hk hj).2.1
      · intro k e j x hk hj; exact (hcell k e j x hk hj).2.2
  | rp i g k off T es e cs' hi h2 hk hl hh ih =>
    intro v h
    obtain ⟨l, b, hl', hb, hgen, rfl, hc⟩ := hr.rp_cells h hi hk
    have hlt : b < w.heap.size := hr.blk_lt ⟨i, l, hl', hb⟩
    refine VR.pp_of (fun _ _ => Ctx.fixd_of (not_owned hr hl' hb h2)) hlt ?_
    intro j y hy
    have hjl : j < (e.cells.drop off).length := by rw [← hl]; exact (List.getElem?_eq_some_iff.1 hy).1
    have hx := List.getElem?_eq_getElem hjl
    obtain ⟨u, u1, u2, u3⟩ := hc j _ hx
    exact ⟨u, u1, u2, ih j _ y hx hy u3⟩
  | agg cs cs' hl hh ih =>
    intro v h
    cases h with
    | agg _ xs hs h1 hv =>
      refine .agg cs' xs (by rw [← hl]; exact hs) h1 fun j y x hy hx => ?_
      have hjl : j < cs.length := by rw [hl]; exact (List.getElem?_eq_some_iff.1 hy).1
      have ha := List.getElem?_eq_getElem hjl
      exact ih j _ y ha hy (hv j _ x ha hx)
  | tup cs cs' hl hh ih =>
    intro v h
    cases h with
    | tup _ xs hs hv =>
      refine .tup cs' xs (by rw [← hl]; exact hs) fun j y x hy hx => ?_
      have hjl : j < cs.length := by rw [hl]; exact (List.getElem?_eq_some_iff.1 hy).1
      have ha := List.getElem?_eq_getElem hjl
      exact ih j _ y ha hy (hv j _ x ha hx)
  | ps es es' hl hcl hh ih =>
    intro v h
    cases h with
    | ps _ ad cap b o us hc ha hw h1 hv =>
      have hel : ∀ (k : Nat) (e : AV), es'[k]? = some e → ∃ a, es[k]? = some a ∧ a.cells.length = e.cells.length := by
        intro k e hk
        have hlt := (List.getElem?_eq_some_iff.1 hk).1
        have ha := List.getElem?_eq_getElem (l := es) (i := k) (by omega)
        exact ⟨_, ha, hcl k _ e ha hk⟩
      rw [hl]
      refine .ps es' ad cap b o us (by omega) (fun hne => ?_) ?_ ?_ ?_
      · have hne' : es ≠ [] := by intro e0; subst e0; exact hne (List.eq_nil_of_length_eq_zero hl.symm)
        exact ha hne'
      · intro k e j x hk hj
        obtain ⟨a, ha', hal⟩ := hel k e hk
        have hjl : j < a.cells.length := by rw [hal]; exact (List.getElem?_eq_some_iff.1 hj).1
        have := hw k a j _ ha' (List.getElem?_eq_getElem hjl)
        rw [hal] at this
        exact ⟨this.1, fun i l hi hb => this.2 i l (Ctx.only_some hi).1 hb⟩
      · intro k e j x hk hj
        obtain ⟨a, ha', hal⟩ := hel k e hk
        have hjl : j < a.cells.length := by rw [hal]; exact (List.getElem?_eq_some_iff.1 hj).1
        exact h1 k a j _ ha' (List.getElem?_eq_getElem hjl)
      · intro k e j x hk hj
        obtain ⟨a, ha', hal⟩ := hel k e hk
        have hjl : j < a.cells.length := by rw [hal]; exact (List.getElem?_eq_some_iff.1 hj).1
        have hy := List.getElem?_eq_getElem hjl
        exact ih k a e j _ x ha' hk hy hj (hv k a j _ ha' hy)
  | ifc t a a' _ ih =>
    intro v h
    cases h with
    | ifc _ _ _ h1 => exact .ifc t _ _ (ih h1)
  | lg i es es' _ ih =>
    intro v h
    cases h with
    | lg _ _ _ h1 _ _ => exact ih h1
  | lgl i es es' hl hcl _ ih =>
    intro v h
    cases h with
    | lg _ _ _ h1 h2 h3 =>
      refine .lg i es' v (ih h1) (by rw [← hl]; exact h2.only) fun l hgl hg e he => ?_
      obtain ⟨k, hk⟩ := List.getElem?_of_mem he
      have hkl := (List.getElem?_eq_some_iff.1 hk).1
      have hke : es[k]? = some es[k] := List.getElem?_eq_getElem (by omega)
      rw [← hcl k _ _ hke hk]
      exact h3 l (Ctx.only_some hgl).1 (by rw [hl]; exact hg) _ (List.getElem_mem _)

theorem GR.only {Γ : Ctx} {w : World} {cs : List AV} {g : Nat} {σ2 : Store} (h : GR Γ w cs g) : GR (Γ.only σ2) w cs g := ⟨h.vr.only, fun ⟨i, l, hi, hb⟩ => h.own ⟨i, l, (Ctx.only_some hi).1, hb⟩, h.blk⟩
theorem R.only {E : Env} {Γ : Ctx} {σ σ2 : Store} {w : World} (hr : R E Γ σ w) (hs : σ2.sub σ) : R E (Γ.only σ2) σ2 w := by
  obtain ⟨hn, hsub⟩ := hs
  refine ⟨by rw [hn]; exact hr.next, ?_, ?_, ?_, ?_, fun g cs hg => (hr.glob g cs hg).only, hr.gbel, hr.base, fun i o l ho hl => hr.lims i o l (hsub i o ho) (Ctx.only_some hl).1⟩
  · intro i
    unfold Ctx.only
    simp only
    split
    · rename_i h
      obtain ⟨o, ho⟩ := Option.isSome_iff_exists.1 h
      rw [hr.dom i, hsub i o ho, ho]
    · rename_i h; simpa using h
  · intro i hi
    cases ho : σ2.get i with
    | none => rfl
    | some o =>
      have := hsub i o ho
      rw [hr.bnd i (by omega)] at this; cases this
  · intro i j li lj b hi hj hib hjb
    exact hr.inj i j li lj b (Ctx.only_some hi).1 (Ctx.only_some hj).1 hib hjb
  · intro i o l ho hl
    have hr' := hr.objs i o l (hsub i o ho) (Ctx.only_some hl).1
    cases o with
    | arr T g es =>
      simp only [ObjRel] at hr' ⊢
      obtain ⟨h1, h2, h3, h4, h5, h6⟩ := hr'
      refine ⟨h1, h2, h3, h4, h5, ?_⟩
      cases hb : l.blk with
      | none => simp only [hb] at h6 ⊢; exact h6
      | some b =>
        simp only [hb] at h6 ⊢
        obtain ⟨xs, fr, q1, q2, q3, q4⟩ := h6
        refine ⟨xs, fr, q1, q2, q3, fun k e j x hk hj => ?_⟩
        obtain ⟨u, u1, u2, u3⟩ := q4 k e j x hk hj
        exact ⟨u, u1, u2, u3.only⟩
    | map ents born clock =>
      obtain ⟨h0, b, es, q1, q2, q3, q4, q5⟩ := hr'
      exact ⟨h0, b, es, q1, q2, q3, fun k e en hk hen => ⟨(q4 k e en hk hen).1, (q4 k e en hk hen).2.only⟩, q5⟩
    | log T m => exact hr'
    | lp b L vs =>
      obtain ⟨h0, q1, q2, q3, q4⟩ := hr'
      exact ⟨h0, q1, q2, q3, fun t a v h1 h2 => (q4 t a v h1 h2).only⟩
    | it o => exact hr'
    | mi m since seen last =>
      obtain ⟨h0, b, bm, q1, q2, q3⟩ := hr'
      exact ⟨h0, b, bm, q1, q2, q3.only⟩


theorem Bel.mono {m m' : Nat} {a : AV} (h : Bel m a) (hm : m ≤ m') : Bel m' a := by
  induction h with
  | c v => exact .c v
  | junk => exact .junk
  | nl => exact .nl
  | agg cs _ ih => exact .agg cs ih
  | tup cs _ ih => exact .tup cs ih
  | ps cs _ ih => exact .ps cs ih
  | fs l => exact .fs l
  | pp cs _ ih => exact .pp cs ih
  | rs i g o n h => exact .rs i g o n (by omega)
  | rc i g o n c h => exact .rc i g o n c (by omega)
  | lg i es h _ ih => exact .lg i es (by omega) ih
  | rp i g k o h => exact .rp i g k o (by omega)
  | mp i h => exact .mp i (by omega)
  | fn f xs ys _ _ ih ih' => exact .fn f xs ys ih ih'
  | ifc t a _ ih => exact .ifc t a ih

def ObjBel (m : Nat) : AObj → Prop
  | .arr _ _ es => ∀ e ∈ es, ∀ x ∈ e.cells, Bel m x
  | .map ents _ _ => ∀ en ∈ ents, Bel m en.2
  | .log _ _ => True
  | .lp _ _ vs => ∀ a ∈ vs, Bel m a
  | .it _ => True
  | .mi i _ _ _ => i < m

/-- Whatever lies in the store has a number, and names objects, below the store's next number. -/
def StoreBel (σ : Store) : Prop := ∀ i o, σ.get i = some o → i < σ.next ∧ ObjBel σ.next o

theorem VR.bel {Γ : Ctx} {w : World} {a : AV} {v : Value} (h : VR Γ w a v) (hn : ∀ x, Bel Γ.next x → True) : True := trivial

def Ctx.lower (Γ : Ctx) (m : Nat) : Ctx := ⟨fun i => if i < m then Γ.get i else none, m, Γ.base⟩

theorem Ctx.lower_some {Γ : Ctx} {m i : Nat} {l : Loc} (h : (Γ.lower m).get i = some l) : Γ.get i = some l ∧ i < m := by
  unfold Ctx.lower at h
  simp only at h
  split at h
  · rename_i hs; exact ⟨h, hs⟩
  · cases h

theorem Ctx.lower_owns {Γ : Ctx} {m b : Nat} (h : (Γ.lower m).owns b) : Γ.owns b := by
  obtain ⟨i, l, hi, hb⟩ := h
  exact ⟨i, l, (Ctx.lower_some hi).1, hb⟩

theorem Ctx.lower_ext {n m : Nat} (Γ : Ctx) (w : World) (hn : n ≤ m) (hm : m ≤ Γ.next) : ExtN n Γ w (Γ.lower m) w :=
  ⟨rfl, rfl, rfl, Nat.le_refl _, fun b _ ho => ⟨.inl rfl, fun h => ho (Ctx.lower_owns h)⟩, fun b k _ hf => ⟨fun _ hv => hv, fun i l hi hb => hf i l (Ctx.lower_some hi).1 hb⟩, fun i l _ hi => ⟨l, (Ctx.lower_some hi).1, Nat.le_refl _, fun _ => rfl⟩, Nat.le_trans hn hm, hn, rfl⟩

theorem VR.lower {Γ : Ctx} {w : World} {a : AV} {v : Value} {m : Nat} (h : VR Γ w a v) : Bel m a → VR (Γ.lower m) w a v := by
  induction h with
  | c v h => exact fun _ => .c v h
  | junk v => exact fun _ => .junk v
  | nl a => exact fun _ => .nl a
  | agg cs xs hs h1 _ ih =>
    intro hb
    cases hb with
    | agg _ hb => exact .agg cs xs hs h1 fun j a x ha hx => ih j a x ha hx (hb a (List.mem_of_getElem? ha))
  | tup cs xs hs _ ih =>
    intro hb
    cases hb with
    | tup _ hb => exact .tup cs xs hs fun j a x ha hx => ih j a x ha hx (hb a (List.mem_of_getElem? ha))
  | ps es a cap b o us hc ha hw h1 _ ih =>
    intro hb
    cases hb with
    | ps _ hb =>
      refine .ps es a cap b o us hc ha (fun k e j x hk hj => ⟨(hw k e j x hk hj).1, fun i l hi hb => (hw k e j x hk hj).2 i l (Ctx.lower_some hi).1 hb⟩) h1 fun k e j x hk hj => ih k e j x hk hj ?_
      have he := hb e (List.mem_of_getElem? hk)
      cases e with
      | agg cs => cases he with | agg _ he => exact he x (List.mem_of_getElem? hj)
      | _ =>
        cases j with
        | zero => simp [AV.cells] at hj; subst hj; exact he
        | succ j => simp [AV.cells] at hj
  | fs l b cap hb hc hh => exact fun _ => .fs l b cap ⟨fun h => hb.1 (Ctx.lower_owns h), hb.2⟩ hc hh
  | pp cs b o us hb hw h1 _ ih =>
    intro hbel
    cases hbel with
    | pp _ hbel => exact .pp cs b o us hb (fun j x hj => ⟨(hw j x hj).1, fun i l hi hb => (hw j x hj).2 i l (Ctx.lower_some hi).1 hb⟩) h1 fun j x hx => ih j x hx (hbel x (List.mem_of_getElem? hx))
  | rs i g off len a cap hi hl h =>
    intro hb
    cases hb with
    | rs _ _ _ _ hlt => exact .rs i g off len a cap hlt hl fun l hl' => h l (Ctx.lower_some hl').1
  | rc i g off len cap a hi hl h =>
    intro hb
    cases hb with
    | rc _ _ _ _ _ hlt => exact .rc i g off len cap a hlt hl fun l hl' => h l (Ctx.lower_some hl').1
  | lg i es v _ _ h3 ih1 ih2 =>
    intro hb
    cases hb with
    | lg _ _ hlt hes => exact .lg i es v (ih1 (.ps es hes)) (ih2 (.rs i _ 0 _ hlt)) fun l hl => h3 l (Ctx.lower_some hl).1
  | rp i g k off a hi h =>
    intro hb
    cases hb with
    | rp _ _ _ _ hlt => exact .rp i g k off a hlt fun l hl' => h l (Ctx.lower_some hl').1
  | mp i r hi h =>
    intro hb
    cases hb with
    | mp _ hlt => exact .mp i r hlt fun l hl' => h l (Ctx.lower_some hl').1
  | fn f first cap xs ys hx hy _ _ ih ih' =>
    intro hb
    cases hb with
    | fn _ _ _ h1 h2 => exact .fn f first cap xs ys hx hy (fun j a x ha hx => ih j a x ha hx (h1 a (List.mem_of_getElem? ha))) (fun j a x ha hx => ih' j a x ha hx (h2 a (List.mem_of_getElem? ha)))
  | ifc t a v _ ih =>
    intro hb
    cases hb with
    | ifc _ _ hb => exact .ifc t a v (ih hb)

theorem GR.lower {Γ : Ctx} {w : World} {cs : List AV} {g m : Nat} (h : GR Γ w cs g) (hb : Bel m (.pp cs)) : GR (Γ.lower m) w cs g := ⟨h.vr.lower hb, fun ho => h.own (Ctx.lower_owns ho), h.blk⟩
theorem R.lower {E : Env} {Γ : Ctx} {σ : Store} {w : World} {m : Nat} (hr : R E Γ σ w) (hm : m ≤ σ.next) (hs : StoreBel ⟨σ.get, m⟩) : R E (Γ.lower m) ⟨σ.get, m⟩ w := by
  refine ⟨rfl, ?_, ?_, ?_, ?_, fun g cs hg => (hr.glob g cs hg).lower (hr.gbel g cs m hg), hr.gbel, hr.base, fun i o l ho hl => hr.lims i o l ho (Ctx.lower_some hl).1⟩
  · intro i
    unfold Ctx.lower
    simp only
    split
    · exact hr.dom i
    · rename_i h
      cases ho : σ.get i with
      | none => rfl
      | some o => exact absurd (hs i o ho).1 h
  · intro i hi
    cases ho : σ.get i with
    | none => rfl
    | some o => have := (hs i o ho).1; simp only at this hi; omega
  · intro i j li lj b hi hj hib hjb
    exact hr.inj i j li lj b (Ctx.lower_some hi).1 (Ctx.lower_some hj).1 hib hjb
  · intro i o l ho hl
    have hr' := hr.objs i o l ho (Ctx.lower_some hl).1
    have hb := (hs i o ho).2
    cases o with
    | arr T g es =>
      simp only [ObjRel] at hr' ⊢
      obtain ⟨h1, h2, h3, h4, h5, h6⟩ := hr'
      refine ⟨h1, h2, h3, h4, h5, ?_⟩
      cases hbk : l.blk with
      | none => simp only [hbk] at h6 ⊢; exact h6
      | some b =>
        simp only [hbk] at h6 ⊢
        obtain ⟨xs, fr, q1, q2, q3, q4⟩ := h6
        refine ⟨xs, fr, q1, q2, q3, fun k e j x hk hj => ?_⟩
        obtain ⟨u, u1, u2, u3⟩ := q4 k e j x hk hj
        exact ⟨u, u1, u2, u3.lower (hb e (List.mem_of_getElem? hk) x (List.mem_of_getElem? hj))⟩
    | map ents born clock =>
      obtain ⟨h0, b, es, q1, q2, q3, q4, q5⟩ := hr'
      exact ⟨h0, b, es, q1, q2, q3, fun k e en hk hen => ⟨(q4 k e en hk hen).1, (q4 k e en hk hen).2.lower (hb en (List.mem_of_getElem? hen))⟩, q5⟩
    | log T m => exact hr'
    | lp b L vs =>
      obtain ⟨h0, q1, q2, q3, q4⟩ := hr'
      exact ⟨h0, q1, q2, q3, fun t a v h1 h2 => (q4 t a v h1 h2).lower (hb a (List.mem_of_getElem? h1))⟩
    | it o => exact hr'
    | mi m since seen last =>
      obtain ⟨h0, b, bm, q1, q2, q3⟩ := hr'
      exact ⟨h0, b, bm, q1, q2, q3.lower (.mp _ hb)⟩

/-- σ2 is σ with objects forgotten, and perhaps a smaller next number. -/
structure Forget (n : Nat) (σ σ2 : Store) : Prop where
  low : n ≤ σ2.next
  high : σ2.next ≤ σ.next
  sub : ∀ i o, σ2.get i = some o → σ.get i = some o
  bel : σ2.next = σ.next ∨ StoreBel σ2

def Belf (σ σ2 : Store) (a : AV) : Prop := σ2.next = σ.next ∨ Bel σ2.next a

theorem Forget.ctx {E : Env} {n : Nat} {Γ : Ctx} {σ σ2 : Store} {w : World} (hf : Forget n σ σ2) (hr : R E Γ σ w) :
    ∃ Γ2, ExtN n Γ w Γ2 w ∧ R E Γ2 σ2 w ∧ ∀ a a' v, VR Γ w a v → SR σ σ2 a a' → Belf σ σ2 a' → VR Γ2 w a' v := by
  obtain ⟨h1, h2, h3, h4⟩ := hf
  have hn : n ≤ Γ.next := by rw [hr.next]; omega
  rcases h4 with h4 | h4
  · exact ⟨Γ.only σ2, Ctx.only_ext Γ σ2 w hn, hr.only ⟨h4, h3⟩, fun a a' v hv hs _ => hv.sr hr hs⟩
  · have hsub : Store.sub ⟨σ2.get, σ.next⟩ σ := ⟨rfl, h3⟩
    have hsr : ∀ a a', SR σ σ2 a a' → SR σ ⟨σ2.get, σ.next⟩ a a' := by
      intro a a' h
      induction h with
      | refl a => exact .refl a
      | junk a => exact .junk a
      | nl => exact .nl
      | rs i g off len T es es' hi h2 hle hl hcl _ ih => exact .rs i g off len T es es' hi h2 hle hl hcl ih
      | rc i g off len cap b _ ih => exact .rc i g off len cap b ih
      | rp i g k off T es e cs' hi h2 hk hl _ ih => exact .rp i g k off T es e cs' hi h2 hk hl ih
      | agg cs cs' hl _ ih => exact .agg cs cs' hl ih
      | tup cs cs' hl _ ih => exact .tup cs cs' hl ih
      | ps es es' hl hcl _ ih => exact .ps es es' hl hcl ih
      | ifc t a a' _ ih => exact .ifc t a a' ih
      | lg i es es' _ ih => exact .lg i es es' ih
      | lgl i es es' hl hcl _ ih => exact .lgl i es es' hl hcl ih
    have hR1 := hr.only hsub
    have hR2 := hR1.lower (m := σ2.next) h2 h4
    have hm : σ2.next ≤ (Γ.only ⟨σ2.get, σ.next⟩).next := by show _ ≤ Γ.next; rw [hr.next]; exact h2
    refine ⟨(Γ.only ⟨σ2.get, σ.next⟩).lower σ2.next, (Ctx.only_ext Γ _ w hn).trans (Ctx.lower_ext _ w h1 hm), hR2, fun a a' v hv hs hb => ?_⟩
    have hv1 := hv.sr hr (hsr a a' hs)
    rcases hb with hb | hb
    · have : (Γ.only ⟨σ2.get, σ.next⟩).lower σ2.next = (Γ.only ⟨σ2.get, σ.next⟩) := by
        unfold Ctx.lower
        have hn2 : σ2.next = (Γ.only ⟨σ2.get, σ.next⟩).next := by show _ = Γ.next; rw [hr.next]; exact hb
        rw [hn2]
        congr 1
        funext i
        split
        · rfl
        · rename_i hi
          exact (hR1.none_next (by rw [← hR1.next]; omega)).symm
      rw [this]; exact hv1
    · exact hv1.lower hb

/-- Forgetting, values and store. -/
def Weak (n N : Nat) (f : Nat → AV) (σ : Store) (f2 : Nat → AV) (σ2 : Store) : Prop :=
  Forget n σ σ2 ∧ (∀ t, t < N → SR σ σ2 (f t) (f2 t) ∧ Belf σ σ2 (f2 t)) ∧ ∀ t, N ≤ t → f2 t = .junk

theorem Weak.ctx {E : Env} {n N : Nat} {Γ : Ctx} {f f2 : Nat → AV} {σ σ2 : Store} {w : World} {tmps : Array Value} (h : Weak n N f σ f2 σ2) (hr : R E Γ σ w) (ht : TR N Γ w f tmps) :
    ∃ Γ2, ExtN n Γ w Γ2 w ∧ R E Γ2 σ2 w ∧ TR N Γ2 w f2 tmps := by
  obtain ⟨h1, h2, h3⟩ := h
  obtain ⟨Γ2, k1, k2, k3⟩ := h1.ctx hr
  exact ⟨Γ2, k1, k2, ht.size, fun t htn => k3 _ _ _ (ht.rel t htn) (h2 t htn).1 (h2 t htn).2, h3⟩

/-- Forgetting ahead of a piece of code. -/
theorem AW.weaken {c : Code} (f2 : Nat → AV) (σ2 : Store) (hw : Weak n N f σ f2 σ2) (h : AW E n N c f2 σ2 Q) : AW E n N c f σ Q := by
  intro rd ds0 Γ w a hrd hn hr ht hd
  obtain ⟨Γ2, hx, hr2, ht2⟩ := hw.ctx hr ht
  exact wpIn_mono (h rd ds0 Γ2 w a hrd hx.le' hr2 ht2 (hd.ext hr hx)) fun e a w' hp => Post.trans hx hp

/-- A loop: what holds at its head, by a parameter; a measure. -/
theorem AW.loop {c : Code} {ι : Type} (I : ι → (Nat → AV) → Store → Prop) (μ : ι → Nat) (x0 : ι) {f2 : Nat → AV} {σ2 : Store} (hw : Weak n N f σ f2 σ2) (h0 : I x0 f2 σ2)
    (round : ∀ x f σ, I x f σ → AW E n N c f σ (AThen (fun f' σ' => ∃ x' f2 σ2, Weak n N f' σ' f2 σ2 ∧ I x' f2 σ2 ∧ μ x' < μ x) Q)) : AW E n N (.loop c) f σ Q := by
  refine AW.weaken f2 σ2 hw ?_
  intro rd ds0 Γ w a hrd hn hr ht hd
  let inv (k : Nat) (a' : Act) (w' : World) : Prop := ∃ x Γ' f' σ', μ x = k ∧ ExtN n Γ w Γ' w' ∧ R E Γ' σ' w' ∧ TR N Γ' w' f' a'.tmps ∧ Marks w' ds0 a' ∧ I x f' σ'
  intro b kk cs hro hb hroom
  have key : ∀ k a' w', inv k a' w' → ∃ e a₂ w₂, Post E n N Γ w ds0 Q e a₂ w₂ ∧ ArrivesIn (Machine.fenced E.P (wideR rd)) E.P (lone (b.atR a' (.code c :: .inLoop c :: kk)) cs w') b kk cs e a₂ w₂ := by
    intro k
    induction k using Nat.strongRecOn with
    | _ k ih =>
      rintro a' w' ⟨x, Γ', f', σ', hk, hx, hr', ht', hd', hI⟩
      have hround := round x f' σ' hI rd ds0 Γ' w' a' hrd hx.le' hr' ht' hd'
      obtain ⟨e, a₁, w₁, hq, harr⟩ := hround b (.inLoop c :: kk) cs hro hb hroom
      rcases hq with ⟨Γ1, f1, σ1, y, hy, hx1, hr1, ht1, hd1, hq1⟩ | ⟨v, rfl, hp, hm⟩
      · cases e with
        | normal =>
          cases y <;> first | exact hy.elim | skip
          obtain ⟨x', f3, σ3, hwk, hI', hlt⟩ := hq1
          obtain ⟨Γ3, hx3, hr3, ht3⟩ := hwk.ctx hr1 ht1
          obtain ⟨e₂, a₂, w₂, hq₂, harr₂⟩ := ih (μ x') (by omega) a₁ w₁ ⟨x', Γ3, f3, σ3, rfl, (hx.trans hx1).trans hx3, hr3, ht3, hd1.ext hr1 hx3, hI'⟩
          exact ⟨e₂, a₂, w₂, hq₂, .of_steps (StepsIn.trans harr (.one (fenced_calm (fr := b.atR a₁ (.inLoop c :: kk)) hb hroom rfl) stepR_inLoop)) harr₂⟩
        | exit i => cases y <;> first | exact hy.elim | exact ⟨_, a₁, w₁, .inl ⟨Γ1, f1, σ1, _, hy, hx.trans hx1, hr1, ht1, hd1, hq1⟩, .pass (x := .inLoop c) rfl (fun _ _ => .inl (by simp)) harr⟩
        | goto i => cases y <;> first | exact hy.elim | exact ⟨_, a₁, w₁, .inl ⟨Γ1, f1, σ1, _, hy, hx.trans hx1, hr1, ht1, hd1, hq1⟩, .pass (x := .inLoop c) rfl (fun _ _ => .inl (by simp)) harr⟩
        | ret => cases y <;> first | exact hy.elim | exact ⟨_, a₁, w₁, .inl ⟨Γ1, f1, σ1, _, hy, hx.trans hx1, hr1, ht1, hd1, hq1⟩, .pass (x := .inLoop c) rfl (fun _ _ => .inl (by simp)) harr⟩
        | panic ch => cases y <;> exact hy.elim
        | outgrown => cases y <;> exact hy.elim
      · refine ⟨_, a₁, w₁, Post.trans hx (.inr ⟨v, rfl, hp, hm⟩), .pass (x := .inLoop c) rfl (fun _ _ => .inl (by simp)) harr⟩
  obtain ⟨e, a₂, w₂, hq, harr⟩ := key (μ x0) a w ⟨x0, Γ, f2, σ2, rfl, ExtN.refl Γ w hn, hr, ht, hd, h0⟩
  exact ⟨e, a₂, w₂, hq, .of_steps (.one (fenced_calm (fr := b.atR a (.code (.loop c) :: kk)) hb hroom rfl) stepR_loop) harr⟩

end
end Go.AW
end
