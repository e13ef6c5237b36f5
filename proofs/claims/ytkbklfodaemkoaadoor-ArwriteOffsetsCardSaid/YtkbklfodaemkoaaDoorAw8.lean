/- Cuts, literals of slices, make, len; then one condition for every operation. No condition. -/
import Derived.Test.YtkbklfodaemkoaaDoorAw7
set_option linter.unusedVariables false
set_option linter.unusedSimpArgs false
set_option linter.unnecessarySimpa false
namespace Go.AW
open Go

/-! ### Cuts -/
def ixOr (a : Option AV) (d : Int) : Option Int :=
  match a with
  | none => some d
  | some (.c (.int _ n)) => some n
  | _ => none

def aSlice (E : Env) (t : TypeId) (x : AV) (lo hi : Option AV) (σ : Store) (K : AV → Prop) : Prop :=
  match ixOr lo 0 with
  | none => False
  | some l => (match tk E.P t, x with
    | .str, .c (.string s) => (match ixOr hi s.size with
      | some h => 0 ≤ l ∧ l ≤ h ∧ h ≤ s.size ∧ K (.c (.string (s.extract l.toNat h.toNat)))
      | none => False)
    | .slc e, .ps es => (match ixOr hi es.length with
      | some h => 0 ≤ l ∧ l ≤ h ∧ h ≤ es.length ∧ tsz E.P e ≠ 0 ∧ (∀ a ∈ es, a.cells.length = tsz E.P e) ∧ K (.ps ((es.take h.toNat).drop l.toNat))
      | none => False)
    | .slc e, .rs i g off len => (match ixOr hi len with
      | some h => (match σ.get i with
        | some (.arr T g' es) => g = g' ∧ tsz E.P e = tsz E.P T ∧ 0 ≤ l ∧ l ≤ h ∧ (h ≤ len ∨ off + h ≤ es.length) ∧ tsz E.P e ≠ 0 ∧ K (.rs i g (off + l.toNat) (h.toNat - l.toNat))
        | _ => False)
      | none => False)
    | .slc e, .rc i g off len cap => (match ixOr hi len with
      | some h => (match σ.get i with
        | some (.arr T g' es) => g = g' ∧ tsz E.P e = tsz E.P T ∧ 0 ≤ l ∧ l ≤ h ∧ h ≤ cap ∧ tsz E.P e ≠ 0 ∧ K (.rc i g (off + l.toNat) (h.toNat - l.toNat) (cap - l.toNat))
        | _ => False)
      | none => False)
    | .slc e, .nl => (match ixOr hi 0 with
      | some h => l = 0 ∧ h = 0 ∧ tsz E.P e ≠ 0 ∧ K .nl
      | none => False)
    | _, _ => False)

/-- An index and its value. -/
def IxRel (Γ : Ctx) (w : World) : Option AV → Option Value → Prop
  | none, none => True
  | some a, some v => VR Γ w a v
  | _, _ => False

theorem ixOr_bound {Γ : Ctx} {w : World} {P : Program} {a : Option AV} {v : Option Value} {d n : Int} (h : IxRel Γ w a v) (hn : ixOr a d = some n) :
    (v = none ∧ a = none ∧ n = d) ∨ ∃ k, v = some (.int k n) := by
  unfold ixOr at hn
  split at hn
  · cases v with
    | none => cases hn; exact .inl ⟨rfl, rfl, rfl⟩
    | some v => exact h.elim
  · cases v with
    | none => exact h.elim
    | some v => cases hn; cases h; exact .inr ⟨_, rfl⟩
  · cases hn

theorem run_bounds {Γ : Ctx} {w : World} {P : Program} {lo hi : Option AV} {lov hiv : Option Value} (isSlice : Bool) {len cap : Nat} {l h : Int} (hlo : IxRel Γ w lo lov) (hhi : IxRel Γ w hi hiv) (hl : ixOr lo 0 = some l) (hh : ixOr hi len = some h)
    (h0 : 0 ≤ l) (h1 : l ≤ h) (h2 : h ≤ cap) : (Instr.sliceBounds isSlice len cap lov hiv none).run P w = .ok (l.toNat, h.toNat, cap) w := by
  have hb : ∀ (k : IntKind) (i : Int) (y : Nat) (code : BoundsCode), 0 ≤ i → i ≤ y → (Instr.sliceBound (.int k i) y code).run P w = .ok i.toNat w := fun k i y code a b => by simp [Instr.sliceBound, asIntOf, a, b]
  rcases ixOr_bound (P := P) hhi hh with ⟨rfl, _, rfl⟩ | ⟨kh, rfl⟩ <;> rcases ixOr_bound (P := P) hlo hl with ⟨rfl, _, rfl⟩ | ⟨kl, rfl⟩
  · simp [Instr.sliceBounds]
  · simp [Instr.sliceBounds, hb kl l len .sliceB h0 h1]
  · have hc : h ≤ (cap : Int) := by omega
    simp [Instr.sliceBounds, hb kh h cap _ (by omega) hc]
  · have hc : h ≤ (cap : Int) := by omega
    simp [Instr.sliceBounds, hb kh h cap _ (by omega) hc, hb kl l h.toNat .sliceB h0 (by omega)]

theorem aSlice_ok {E : Env} {Γ : Ctx} {σ : Store} {w : World} {t : TypeId} {x : AV} {xv : Value} {lo hi : Option AV} {lov hiv : Option Value} {K : AV → Store → Prop} (hr : R E Γ σ w) (hx : VR Γ w x xv)
    (hlo : IxRel Γ w lo lov) (hhi : IxRel Γ w hi hiv) (h : aSlice E t x lo hi σ fun a => K a σ) : Up E Γ w K ((do pure (.value (← Instr.sliceAt t xv lov hiv none)) : Sem Next).run E.P w) := by
  unfold aSlice at h
  split at h
  · exact h.elim
  · rename_i l hl
    split at h
    · rename_i s ht
      have hu := tk_str ht
      cases hx
      split at h
      · rename_i hh' hh
        obtain ⟨h0, h1, h2, h⟩ := h
        have hb := run_bounds (P := E.P) (cap := s.size) false hlo hhi hl hh h0 h1 h2
        refine Up.value (w' := w) ?_ (Res.same hr (.c _ rfl) h)
        simp [Instr.sliceAt, Instr.slice, run_underlying hu, hb]
      · exact h.elim
    · rename_i e es ht
      have hu := tk_slc ht
      cases hx with
      | ps es a cap b o us hc ha hw hv1 hv =>
      split at h
      · rename_i hh' hh
        obtain ⟨h0, h1, h2, hnz, hsz, h⟩ := h
        have hb := run_bounds (P := E.P) (cap := cap) true hlo hhi hl hh h0 h1 (by omega)
        have hs := run_tsz hnz w
        have hlen : ((es.take hh'.toNat).drop l.toNat).length = hh'.toNat - l.toNat := by simp; omega
        refine Up.value (v := .slice (if cap = l.toNat then a else a.map (·.add (l.toNat * tsz E.P e))) (hh'.toNat - l.toNat) (cap - l.toNat)) (w' := w) ?_ (Res.same hr ?_ h)
        · simp [Instr.sliceAt, Instr.slice, run_underlying hu, hb, hs]
        · rw [← hlen]
          refine .ps _ _ _ b (o + l.toNat * tsz E.P e) (fun k j => us (l.toNat + k) j) (by rw [hlen]; omega) ?_ ?_ ?_ ?_
          · intro hne
            have hes : es ≠ [] := by intro e0; subst e0; simp at hne
            obtain ⟨rfl, a3⟩ := ha hes
            refine ⟨?_, a3⟩
            have : cap ≠ l.toNat := by
              intro e0
              have : ((es.take hh'.toNat).drop l.toNat).length = 0 := by rw [hlen]; omega
              exact hne (List.eq_nil_of_length_eq_zero this)
            rw [if_neg this]
            simp [addr_add]
          · intro k y j z hk hj
            rw [List.getElem?_drop, List.getElem?_take] at hk
            split at hk
            · have := hw _ y j z hk hj
              rw [hsz y (List.mem_of_getElem? hk)] at this ⊢
              rwa [Nat.add_mul, ← Nat.add_assoc] at this
            · cases hk
          · intro k y j z hk hj
            rw [List.getElem?_drop, List.getElem?_take] at hk
            split at hk
            · exact hv1 _ y j z hk hj
            · cases hk
          · intro k y j z hk hj
            rw [List.getElem?_drop, List.getElem?_take] at hk
            split at hk
            · exact hv _ y j z hk hj
            · cases hk
      · exact h.elim
    · rename_i e ii gg off len ht
      have hu := tk_slc ht
      obtain ⟨a, cap, rfl, hin, hlc, hat⟩ := hx.rs_inv
      split at h
      · rename_i hh' hh
        split at h
        · rename_i T g' es hget
          obtain ⟨rfl, hsz, h0, h1, h2, hnz, h⟩ := h
          have hs := run_tsz hnz w
          obtain ⟨l', hl', ho, _⟩ := hr.loc hget
          simp only [ObjRel] at ho
          have hhc : hh' ≤ (cap : Int) := by
            rcases h2 with h2 | h2
            · omega
            · have hat' := (hat l' hl').2 ho.1
              unfold Loc.rsAt at hat'
              cases hb' : l'.blk with
              | none =>
                simp only [hb'] at hat' ho
                have := ho.2.2.2.2.2.1
                subst this
                simp at h2
                omega
              | some b =>
                simp only [hb'] at hat'
                have := ho.2.2.2.1
                omega
          have hb := run_bounds (P := E.P) (cap := cap) true hlo hhi hl hh h0 h1 hhc
          have hlsz : l'.sz = tsz E.P e := by rw [ho.2.1, hsz]; rfl
          refine Up.value (v := .slice (if cap = l.toNat then a else a.map (·.add (l.toNat * tsz E.P e))) (hh'.toNat - l.toNat) (cap - l.toNat)) (w' := w) ?_ (Res.same hr ?_ h)
          · simp [Instr.sliceAt, Instr.slice, run_underlying hu, hb, hs]
          · refine .rs ii gg _ _ _ _ hin (by omega) ?_
            intro l2 hl2
            rw [hl'] at hl2; cases hl2
            refine ⟨(hat l' hl').1, fun e0 => ?_⟩
            have hat' := (hat l' hl').2 e0
            unfold Loc.rsAt at hat' ⊢
            cases hb' : l'.blk with
            | none => simp only [hb'] at hat' ⊢; omega
            | some b =>
              simp only [hb'] at hat' ⊢
              obtain ⟨a1, a2, a3⟩ := hat'
              refine ⟨by omega, ?_, ?_⟩
              · by_cases hc0 : cap = l.toNat
                · left; omega
                · right
                  rw [if_neg hc0]
                  have : cap ≠ 0 := by omega
                  rcases a2 with a2 | a2
                  · omega
                  · rw [a2]; simp only [Option.map_some, addr_add, hlsz]; rw [← Nat.add_mul]
              · intro e1
                have hoff : off = 0 := by omega
                have hl0 : l.toNat = 0 := by omega
                rw [hl0, a3 hoff]
                simp [addr_add]
        · exact h.elim
      · exact h.elim
    · rename_i e ii gg off len cap0 ht
      have hu := tk_slc ht
      obtain ⟨a, rfl, hin, hlc, hat⟩ : ∃ a, xv = .slice a len cap0 ∧ ii < Γ.next ∧ len ≤ cap0 ∧ ∀ l, Γ.get ii = some l → gg ≤ l.gen ∧ (l.gen = gg → l.rsAt off len a cap0) := by
        cases hx with
        | rc _ _ _ _ _ a h1 h2 h3 => exact ⟨a, rfl, h1, h2, h3⟩
      split at h
      · rename_i hh' hh
        split at h
        · rename_i T g' es hget
          obtain ⟨rfl, hsz, h0, h1, h2, hnz, h⟩ := h
          have hs := run_tsz hnz w
          obtain ⟨l', hl', ho, _⟩ := hr.loc hget
          simp only [ObjRel] at ho
          have hb := run_bounds (P := E.P) (cap := cap0) true hlo hhi hl hh h0 h1 h2
          have hlsz : l'.sz = tsz E.P e := by rw [ho.2.1, hsz]; rfl
          refine Up.value (v := .slice (if cap0 = l.toNat then a else a.map (·.add (l.toNat * tsz E.P e))) (hh'.toNat - l.toNat) (cap0 - l.toNat)) (w' := w) ?_ (Res.same hr ?_ h)
          · simp [Instr.sliceAt, Instr.slice, run_underlying hu, hb, hs]
          · refine .rc ii gg _ _ _ _ hin (by omega) ?_
            intro l2 hl2
            rw [hl'] at hl2; cases hl2
            refine ⟨(hat l' hl').1, fun e0 => ?_⟩
            have hat' := (hat l' hl').2 e0
            unfold Loc.rsAt at hat' ⊢
            cases hb' : l'.blk with
            | none => simp only [hb'] at hat' ⊢; omega
            | some b =>
              simp only [hb'] at hat' ⊢
              obtain ⟨a1, a2, a3⟩ := hat'
              refine ⟨by omega, ?_, ?_⟩
              · by_cases hc0 : cap0 = l.toNat
                · left; omega
                · right
                  rw [if_neg hc0]
                  have : cap0 ≠ 0 := by omega
                  rcases a2 with a2 | a2
                  · omega
                  · rw [a2]; simp only [Option.map_some, addr_add, hlsz]; rw [← Nat.add_mul]
              · intro e1
                have hoff : off = 0 := by omega
                have hl0 : l.toNat = 0 := by omega
                rw [hl0, a3 hoff]
                simp [addr_add]
        · exact h.elim
      · exact h.elim
    · rename_i e ht
      have hu := tk_slc ht
      cases hx with
      | nl a =>
      split at h
      · rename_i hh' hh
        obtain ⟨rfl, rfl, hnz, h⟩ := h
        have hb := run_bounds (P := E.P) (len := 0) (cap := 0) true hlo hhi hl hh (by omega) (by omega) (by omega)
        have hs := run_tsz hnz w
        refine Up.value (v := .slice a 0 0) (w' := w) ?_ (Res.same hr (.nl _) h)
        simp at hb
        simp [Instr.sliceAt, Instr.slice, run_underlying hu, hb, hs]
      · exact h.elim
    · exact h.elim

/-! ### Literals of slices -/
def aBuildSlice (E : Env) (own : Nat) (t : TypeId) (len : Nat) (parts : List (Nat × AV)) (σ : Store) (K : AV → Store → Prop) : Prop :=
  match tk E.P t with
  | .slc e => tsz E.P e ≠ 0 ∧ len * tsz E.P e ≤ 16777216 ∧ (azero E.P e).ok = true ∧ tsz E.P e = (azero E.P e).cells.length ∧ (∀ p ∈ parts, p.1 < len ∧ p.2.ok = true ∧ p.2.cells.length = tsz E.P e) ∧
      (if own = 1 then K (.rs σ.next 0 0 len) (σ.alloc (.arr e 0 (parts.foldl (fun es p => es.set p.1 p.2) (List.replicate len (azero E.P e)))))
       else if own = 2 then K (.lg σ.next (parts.foldl (fun es p => es.set p.1 p.2) (List.replicate len (azero E.P e)))) (σ.alloc (.log e len))
       else if len = 0 then K .nl σ else K (.ps (parts.foldl (fun es p => es.set p.1 p.2) (List.replicate len (azero E.P e)))) σ)
  | _ => False

theorem flat_set {sz : Nat} : ∀ (es : List AV) (k : Nat) (a : AV), (∀ e ∈ es, e.cells.length = sz) → k < es.length → a.cells.length = sz →
    flat (es.set k a) = (flat es).take (k * sz) ++ a.cells ++ (flat es).drop (k * sz + a.cells.length)
  | [], k, a, _, h, _ => by simp at h
  | e :: es, k, a, hs, hk, ha => by
    have he := hs e (by simp)
    cases k with
    | zero => simp [flat, ha, he]
    | succ k =>
      have ih := flat_set es k a (fun e he => hs e (by simp [he])) (by simpa using hk) ha
      unfold flat at ih ⊢
      rw [List.set_cons_succ, List.flatMap_cons, List.flatMap_cons, ih]
      have h1 : (k + 1) * sz = e.cells.length + k * sz := by rw [he, Nat.succ_mul]; omega
      rw [h1, List.take_append, List.take_of_length_le (show e.cells.length ≤ e.cells.length + k * sz by omega), Nat.add_sub_cancel_left]
      rw [List.drop_append (l₁ := e.cells), List.drop_of_length_le (show e.cells.length ≤ e.cells.length + k * sz + a.cells.length by omega), show e.cells.length + k * sz + a.cells.length - e.cells.length = k * sz + a.cells.length by omega]
      simp only [List.append_assoc, List.nil_append]

theorem fill_slice {Γ : Ctx} {w : World} {sz : Nat} : ∀ (parts : List (Nat × AV)) (vparts : List (Nat × Value)) (es : List AV) (us : Array Value), PartsRel Γ w parts vparts → CellsRel Γ w (flat es) us.toList → (∀ e ∈ es, e.cells.length = sz) →
    (∀ p ∈ parts, p.1 < es.length ∧ p.2.ok = true ∧ p.2.cells.length = sz) →
    ∃ us', Instr.fill (fun i => some (i * sz, sz)) us vparts = some us' ∧ CellsRel Γ w (flat (parts.foldl (fun es p => es.set p.1 p.2) es)) us'.toList ∧ (∀ e ∈ parts.foldl (fun es p => es.set p.1 p.2) es, e.cells.length = sz) ∧
      (parts.foldl (fun es p => es.set p.1 p.2) es).length = es.length
  | [], [], es, us, _, hc, hs, _ => ⟨us, rfl, hc, hs, rfl⟩
  | (i, a) :: parts, (j, v) :: vparts, es, us, hp, hc, hs, hcond => by
    obtain ⟨rfl, hv, hp⟩ := hp
    obtain ⟨c1, c2, c3⟩ := hcond (i, a) (by simp)
    simp only at c1 c2 c3
    obtain ⟨d1, d2, d3⟩ := hv.cells c2
    have hus : us.size = es.length * sz := by have := hc.1; rw [flat_length hs] at this; simpa using this
    have hle : i * sz + sz ≤ us.size := by rw [hus, ← Nat.succ_mul]; exact Nat.mul_le_mul_right _ c1
    have hfold : v.cells.zipIdx.foldl (fun cs (x : Value × Nat) => cs.setIfInBounds (i * sz + x.2) x.1) us = (us.toList.take (i * sz) ++ v.cells.toList ++ us.toList.drop (i * sz + v.cells.size)).toArray := by
      have := foldl_set v.cells.toList (i * sz) 0 us (by simp; omega)
      simp only [Nat.add_zero, Array.length_toList] at this
      rw [← this, ← Array.foldl_toList]
      congr 1
      simp
    have hset : ∀ e ∈ es.set i a, e.cells.length = sz := fun e he => by
      rcases List.mem_or_eq_of_mem_set he with h | rfl
      · exact hs e h
      · exact c3
    obtain ⟨us', u1, u2, u3, u4⟩ := fill_slice parts vparts (es.set i a) (us.toList.take (i * sz) ++ v.cells.toList ++ us.toList.drop (i * sz + v.cells.size)).toArray hp
      (by
        rw [flat_set es i a hs c1 c3]
        have := ((hc.take (i * sz)).append (hv.cellsRel c2)).append (hc.drop (i * sz + a.cells.length))
        rw [d1] at this ⊢
        simpa using this) hset (fun p hp' => by have := hcond p (by simp [hp']); simpa using this)
    refine ⟨us', ?_, u2, u3, by simpa using u4⟩
    simp only [Instr.fill]
    rw [if_neg (by simp; omega), hfold]
    exact u1
  | [], _ :: _, _, _, hp, _, _, _ => hp.elim
  | _ :: _, [], _, _, hp, _, _, _ => hp.elim

/-- The zero cells of a row. -/
theorem zero_cells {Γ : Ctx} {w : World} {z : Value} {za : AV} {sz n : Nat} (hz : VR Γ w za z) (hok : za.ok = true) (hsz : sz = za.cells.length) (hnz : sz ≠ 0) :
    CellsRel Γ w (flat (List.replicate n za)) ((Array.range (n * sz)).map (z.cells[· % z.cells.size]!)).toList := by
  obtain ⟨h1, h2, h3⟩ := hz.cells hok
  have hzs : z.cells.size = sz := by omega
  have hfl : ∀ m x, (flat (List.replicate n za))[m]? = some x → m < n * sz ∧ za.cells[m % sz]? = some x := by
    intro m x hx
    have hm := (List.getElem?_eq_some_iff.1 hx).1
    rw [flat_length (sz := sz) (fun e he => by rw [(List.mem_replicate.1 he).2, hsz]), List.length_replicate] at hm
    have hdiv : m / sz < n := Nat.div_lt_of_lt_mul (by rwa [Nat.mul_comm] at hm)
    have hmod : m % sz < sz := Nat.mod_lt _ (by omega)
    have hy : za.cells[m % sz]? = some (za.cells[m % sz]'(by omega)) := List.getElem?_eq_getElem _
    have := flat_get (sz := sz) (es := List.replicate n za) (k := m / sz) (e := za) (fun e he => by rw [(List.mem_replicate.1 he).2, hsz]) (by rw [List.getElem?_replicate, if_pos hdiv]) hy
    rw [Nat.mul_comm, Nat.div_add_mod] at this
    rw [this] at hx; cases hx
    exact ⟨hm, hy⟩
  refine ⟨?_, ?_, ?_⟩
  · rw [flat_length (sz := sz) (fun e he => by rw [(List.mem_replicate.1 he).2, hsz])]; simp
  · intro u hu
    simp only [Array.toList_map, List.mem_map] at hu
    obtain ⟨m, _, rfl⟩ := hu
    have hmod : m % z.cells.size < z.cells.size := Nat.mod_lt _ (by omega)
    have : z.cells[m % z.cells.size]! = z.cells[m % z.cells.size] := by simp [hmod]
    rw [this]
    exact h2 _ (Array.getElem_mem _)
  · intro m x u hx hu
    obtain ⟨hm, hy⟩ := hfl m x hx
    have hmod : m % z.cells.size < z.cells.size := Nat.mod_lt _ (by omega)
    have hu' : u = z.cells[m % z.cells.size] := by
      simp [hm] at hu
      rw [← hu]; simp [hmod]
    rw [hu']
    rw [← hzs] at hy
    exact h3 _ x _ hy (Array.getElem?_eq_getElem hmod)

theorem rowRel_of_cells {Γ : Ctx} {w : World} {sz : Nat} {es : List AV} {xs : Array Value} (hs : ∀ e ∈ es, e.cells.length = sz) (hc : CellsRel Γ w (flat es) xs.toList) : RowRel Γ w sz es xs := by
  refine ⟨hs, fun k e j x hk hj => ?_⟩
  have hf := flat_get hs hk hj
  have hlt : k * sz + j < xs.toList.length := by rw [hc.1]; exact (List.getElem?_eq_some_iff.1 hf).1
  have hu := List.getElem?_eq_getElem hlt
  exact ⟨xs.toList[k * sz + j], by rw [← Array.getElem?_toList]; exact hu, hc.2.1 _ (List.mem_of_getElem? hu), hc.2.2 _ _ _ hf hu⟩

theorem aBuildSlice_ok {E : Env} {Γ : Ctx} {σ : Store} {w : World} {own : Nat} {t : TypeId} {len : Nat} {parts : List (Nat × AV)} {vparts : Array (Nat × Value)} {K : AV → Store → Prop} (hr : R E Γ σ w) (hp : PartsRel Γ w parts vparts.toList)
    (h : aBuildSlice E own t len parts σ K) : Up E Γ w K ((do pure (.value (← Instr.buildSlice t len vparts)) : Sem Next).run E.P w) := by
  unfold aBuildSlice at h
  split at h
  · rename_i e ht
    have hu := tk_slc ht
    obtain ⟨hnz, hle, hok, hsz, hcond, h⟩ := h
    have hs := run_tsz hnz w
    obtain ⟨z, hz1, hz2⟩ := run_azero (Γ := Γ) (w := w) hok
    obtain ⟨us', u1, u2, u3, u4⟩ := fill_slice (sz := tsz E.P e) parts vparts.toList (List.replicate len (azero E.P e)) _ hp (zero_cells (n := len) hz2 hok hsz hnz) (fun e he => by rw [(List.mem_replicate.1 he).2, hsz]) (by simpa using hcond)
    have hrun : (Instr.buildSlice t len vparts).run E.P w = .ok (.slice (some ⟨w.heap.size, 0, none⟩) len len) { w with heap := w.heap.push (.cells us' e) } := by
      have hle' : ¬ (16777216 < len * tsz E.P e) := by omega
      by_cases h0 : len = 0
      · subst h0
        have hp0 : parts = [] := by
          cases parts with
          | nil => rfl
          | cons p ps => have := (hcond p (by simp)).1; omega
        subst hp0
        have hv0 : vparts.toList = [] := by
          cases hv : vparts.toList with
          | nil => rfl
          | cons p ps => rw [hv] at hp; exact hp.elim
        have hr0 : Array.range 0 = #[] := rfl
        rw [hv0] at u1
        simp [Instr.fill, hr0] at u1
        simp [Instr.buildSlice, run_underlying hu, hs, hv0, Instr.fill, newRow, ← u1, hr0]
      · have hnz' : len * tsz E.P e ≠ 0 := Nat.mul_ne_zero h0 hnz
        simp [Instr.buildSlice, run_underlying hu, hs, hle', h0, hnz, hnz', hz1, u1, newRow]
    have hlen : (parts.foldl (fun es p => es.set p.1 p.2) (List.replicate len (azero E.P e))).length = len := by rw [u4]; simp
    refine Up.value hrun ?_
    split at h
    · have := new_owned (K := K) (e := e) (cap := len) (fr := (0, 0)) hr (rowRel_of_cells u3 u2) (by omega) (by simp only [maxLen]; have : len * 1 ≤ len * tsz E.P e := Nat.mul_le_mul_left _ (by omega); omega)
        (by have := u2.1; rw [flat_length u3, hlen] at this; simpa using this) (.inl rfl) (grown_push w (.cells us' e)) (heap_push_new w _) (by rw [hlen]; exact h)
      rwa [hlen] at this
    · split at h
      · have := new_log (K := K) (e := e) (c := len) (fr := (0, 0)) hr (grown_push w (.cells us' e)) (heap_push_new w _) (.inl rfl) (rowRel_of_cells u3 u2).1 (rowRel_of_cells u3 u2).2
          (by have := u2.1; rw [flat_length u3, hlen] at this; simpa using this) (by omega) (by simp only [maxLen]; have : len * 1 ≤ len * tsz E.P e := Nat.mul_le_mul_left _ (by omega); omega) (by rw [hlen]; exact h)
        rwa [hlen] at this
      split at h
      · rename_i h0
        have := new_sealed (K := fun _ σ' => σ' = σ) (e := e) (cap := len) (fr := (0, 0)) hr (rowRel_of_cells u3 u2) (by omega) (grown_push w (.cells us' e)) (heap_push_new w _) rfl
        rw [hlen] at this
        obtain ⟨Γ', a, σ', k1, k2, k3, rfl⟩ := this
        refine ⟨Γ', .nl, σ', k1, k2, ?_, h⟩
        rw [h0]; exact .nl _
      · have := new_sealed (K := K) (e := e) (cap := len) (fr := (0, 0)) hr (rowRel_of_cells u3 u2) (by omega) (grown_push w (.cells us' e)) (heap_push_new w _) h
        rwa [hlen] at this
  · exact h.elim

/-- A literal of bytes that is converted to its own type next. -/
def aBuildLit (E : Env) (t : TypeId) (len : Nat) (parts : List (Nat × AV)) (K : AV → Prop) : Prop :=
  match tk E.P t with
  | .slc e => tsz E.P e ≠ 0 ∧ len * tsz E.P e ≤ 16777216 ∧ (azero E.P e).ok = true ∧ tsz E.P e = (azero E.P e).cells.length ∧ (∀ p ∈ parts, p.1 < len ∧ p.2.ok = true ∧ p.2.cells.length = tsz E.P e) ∧
      tk E.P e = .int .u8 ∧ ∃ l : List UInt8, parts.foldl (fun es p => es.set p.1 p.2) (List.replicate len (azero E.P e)) = l.map byteV ∧ K (.fs l)
  | _ => False

theorem aBuildLit_ok {E : Env} {Γ : Ctx} {σ : Store} {w : World} {t : TypeId} {len : Nat} {parts : List (Nat × AV)} {vparts : Array (Nat × Value)} {K : AV → Store → Prop} (hr : R E Γ σ w) (hp : PartsRel Γ w parts vparts.toList)
    (h : aBuildLit E t len parts fun a => K a σ) : Up E Γ w K ((do pure (.value (← Instr.buildSlice t len vparts)) : Sem Next).run E.P w) := by
  unfold aBuildLit at h
  split at h
  · rename_i e ht
    obtain ⟨hnz, hle, hok, hsz, hcond, he, l, hl, h⟩ := h
    have hu := tk_slc ht
    have hs := run_tsz hnz w
    obtain ⟨z, hz1, hz2⟩ := run_azero (Γ := Γ) (w := w) hok
    obtain ⟨us', u1, u2, u3, u4⟩ := fill_slice (sz := tsz E.P e) parts vparts.toList (List.replicate len (azero E.P e)) _ hp (zero_cells (n := len) hz2 hok hsz hnz) (fun e he => by rw [(List.mem_replicate.1 he).2, hsz]) (by simpa using hcond)
    have hrun : (Instr.buildSlice t len vparts).run E.P w = .ok (.slice (some ⟨w.heap.size, 0, none⟩) len len) { w with heap := w.heap.push (.cells us' e) } := by
      have hle' : ¬ (16777216 < len * tsz E.P e) := by omega
      by_cases h0 : len = 0
      · subst h0
        have hp0 : parts = [] := by
          cases parts with
          | nil => rfl
          | cons p ps => have := (hcond p (by simp)).1; omega
        subst hp0
        have hv0 : vparts.toList = [] := by
          cases hv : vparts.toList with
          | nil => rfl
          | cons p ps => rw [hv] at hp; exact hp.elim
        have hr0 : Array.range 0 = #[] := rfl
        rw [hv0] at u1
        simp [Instr.fill, hr0] at u1
        simp [Instr.buildSlice, run_underlying hu, hs, hv0, Instr.fill, newRow, ← u1, hr0]
      · have hnz' : len * tsz E.P e ≠ 0 := Nat.mul_ne_zero h0 hnz
        simp [Instr.buildSlice, run_underlying hu, hs, hle', h0, hnz, hnz', hz1, u1, newRow]
    have hlen : (parts.foldl (fun es p => es.set p.1 p.2) (List.replicate len (azero E.P e))).length = len := by rw [u4]; simp
    obtain ⟨hx, hR⟩ := hr.same_ctx (grown_push w (.cells us' e))
    have hll : l.length = len := by rw [hl] at hlen; simpa using hlen
    have hflat : ∀ m : List UInt8, flat (m.map byteV) = m.map byteV := by
      intro m
      induction m with
      | nil => rfl
      | cons y m ih => unfold flat at ih ⊢; rw [List.map_cons, List.flatMap_cons, ih]; rfl
    rw [hl, hflat] at u2
    refine Up.value hrun ⟨Γ, .fs l, σ, hx, hR, ?_, h⟩
    rw [← hll]
    refine .fs l w.heap.size l.length ⟨fun ho => absurd (hr.blk_lt ho) (Nat.lt_irrefl _), by simp, hr.base⟩ (Nat.le_refl _) ⟨us', e, (0, 0), by simp, fun k x hk => ?_⟩
    have hk1 : (l.map byteV)[k]? = some (byteV x) := by rw [List.getElem?_map, hk]; rfl
    have hlt : k < us'.toList.length := by have h8 := (List.getElem?_eq_some_iff.1 hk1).1; have h9 := u2.1; omega
    have hv := u2.2.2 k _ _ hk1 (List.getElem?_eq_getElem hlt)
    have hu' : us'[k]? = some us'.toList[k] := by rw [← Array.getElem?_toList]; exact List.getElem?_eq_getElem hlt
    rw [hu']
    generalize us'.toList[k] = v at hv
    cases hv
    rfl
  · exact h.elim

/-! ### make -/
def aMakeSlice (E : Env) (t : TypeId) (l c : AV) (σ : Store) (K : AV → Store → Prop) : Prop :=
  match tk E.P t, l, c with
  | .slc e, .c (.int _ l), .c (.int _ c) => tsz E.P e ≠ 0 ∧ (azero E.P e).ok = true ∧ tsz E.P e = (azero E.P e).cells.length ∧ 0 ≤ l ∧ l ≤ c ∧ (tby E.P e : Int) * c ≤ 281474976710656 ∧ c ≤ 9223372036854775807 ∧
      K (.rs σ.next 0 0 l.toNat) (σ.alloc (.arr e 0 (List.replicate l.toNat (azero E.P e))))
  | _, _, _ => False

theorem aMakeSlice_ok {E : Env} {Γ : Ctx} {σ : Store} {w : World} {t : TypeId} {l c : AV} {lv cv : Value} {K : AV → Store → Prop} (hr : R E Γ σ w) (hl : VR Γ w l lv) (hc : VR Γ w c cv) (h : aMakeSlice E t l c σ K) :
    Up E Γ w K ((do pure (.value (← Instr.makeSlice t lv cv)) : Sem Next).run E.P w) := by
  unfold aMakeSlice at h
  split at h
  · rename_i e kl l kc c ht
    have hu := tk_slc ht
    cases hl; cases hc
    obtain ⟨hnz, hok, hsz, h0, h1, hb, h63, h⟩ := h
    obtain ⟨i, hi, hsize⟩ : ∃ i, E.P.info? e = some i ∧ i.size = tsz E.P e := by
      unfold tsz cellsOf' at *
      cases hi : E.P.info? e with
      | none => simp [hi] at hnz
      | some i => exact ⟨i, rfl, by simp⟩
    have hby : tby E.P e = i.bytes := by simp [tby, hi]
    obtain ⟨z, hz, hzv⟩ : ∃ z, i.zero = some z ∧ VR Γ w (azero E.P e) z := by
      unfold azero tzero at *
      cases hzz : i.zero with
      | none => simp [hi, hzz, AV.ok] at hok
      | some z => exact ⟨z, rfl, by simpa [hi, hzz] using VR.ofV Γ w z⟩
    have hrun := run_make (P := E.P) w t e i z hu hi hz kl kc l c h0 h1 (by rw [← hby]; exact hb) h63
    refine Up.value hrun ?_
    have hcz := zero_cells (n := c.toNat) hzv hok hsz hnz
    have hlen : (List.replicate l.toNat (azero E.P e)).length = l.toNat := by simp
    have hrow : RowRel Γ w (tsz E.P e) (List.replicate l.toNat (azero E.P e)) (madeCells z.cells (c.toNat * i.size)) := by
      have hr' := rowRel_of_cells (sz := tsz E.P e) (fun e he => by rw [(List.mem_replicate.1 he).2, hsz]) hcz
      refine ⟨fun e he => by rw [(List.mem_replicate.1 he).2, hsz], fun k y j x hk hj => ?_⟩
      rw [hsize]
      rw [List.getElem?_replicate] at hk
      split at hk
      · exact hr'.2 k y j x (by rw [List.getElem?_replicate, if_pos (by omega)]; exact hk) hj
      · cases hk
    have := new_owned (K := K) (e := e) (cap := c.toNat) (fr := (0, 0)) hr hrow (by rw [hlen]; omega) (by simp only [maxLen]; omega) (by rw [size_madeCells, hsize]) (.inl rfl)
      (w' := w.alloc (.cells (madeCells z.cells (c.toNat * i.size)) e)) (grown_push w _) (heap_push_new w _) (by rw [hlen]; exact h)
    rwa [hlen] at this
  · exact h.elim
end Go.AW
