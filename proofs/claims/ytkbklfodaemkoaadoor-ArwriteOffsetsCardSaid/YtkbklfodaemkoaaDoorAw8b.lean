/- Rows of the store that are written in part: copy, clear, append into known room, a slice whose capacity is known. No condition. -/
import Derived.Test.YtkbklfodaemkoaaDoorAw8
import Derived.Lib.AppendZerosOnto
set_option linter.unusedVariables false
set_option linter.unusedSimpArgs false
set_option linter.unnecessarySimpa false
namespace Go.AW
open Go

theorem splice_get2 {α : Type} (l vs : List α) (A m : Nat) (h : A ≤ l.length) :
    (l.take A ++ vs ++ l.drop (A + vs.length))[m]? = if m < A then l[m]? else if m < A + vs.length then vs[m - A]? else l[m]? := by
  have hA : (l.take A).length = A := by rw [List.length_take]; omega
  by_cases h1 : m < A
  · rw [if_pos h1, List.append_assoc, List.getElem?_append_left (by omega), List.getElem?_take, if_pos h1]
  · rw [if_neg h1]
    by_cases h2 : m < A + vs.length
    · rw [if_pos h2, List.append_assoc, List.getElem?_append_right (by omega), hA, List.getElem?_append_left (by omega)]
    · rw [if_neg h2, List.getElem?_append_right (by simp; omega), List.getElem?_drop]
      congr 1
      simp
      omega

/-- Elements are written into a row of the store. -/
theorem write_row {E : Env} {Γ : Ctx} {σ : Store} {w : World} {i g off : Nat} {T : TypeId} {es news : List AV} {l : Loc} {b : Nat} {us : List Value} {xs : Array Value} {fr : Nat × Nat} (hr : R E Γ σ w) (hi : σ.get i = some (.arr T g es)) (hl : Γ.get i = some l) (hb : l.blk = some b)
    (hq : w.heap[b]? = some (.cells xs T fr)) (hc : CellsRel Γ w (flat news) us) (hns : ∀ e ∈ news, e.cells.length = l.sz) (hoff : off ≤ es.length) (hcap : off + news.length ≤ l.cap) :
    (storeCells ⟨b, off * l.sz, none⟩ us).run E.P w = .ok () (w.setRow b (xs.toList.take (off * l.sz) ++ us ++ xs.toList.drop (off * l.sz + us.length)).toArray) ∧
    ExtN Γ.next Γ w (Γ.set i l) (w.setRow b (xs.toList.take (off * l.sz) ++ us ++ xs.toList.drop (off * l.sz + us.length)).toArray) ∧
    R E (Γ.set i l) (σ.set i (.arr T g (es.take off ++ news ++ es.drop (off + news.length)))) (w.setRow b (xs.toList.take (off * l.sz) ++ us ++ xs.toList.drop (off * l.sz + us.length)).toArray) := by
  obtain ⟨l', hl', ho, hlt⟩ := hr.loc hi
  have hll : l' = l := by rw [hl] at hl'; exact (Option.some.inj hl').symm
  subst hll
  simp only [ObjRel, hb] at ho
  obtain ⟨o1, o2, o3, o4, o5, xs', fr', q1, q2, q3, q4⟩ := ho
  rw [hq] at q1
  cases q1
  have husl : us.length = news.length * l'.sz := by rw [hc.1, flat_length hns]
  have hfit : off * l'.sz + us.length ≤ xs.size := by
    rw [husl, q3, ← Nat.add_mul]; exact Nat.mul_le_mul_right _ hcap
  have hst := run_storeCells_free E.P b (off * l'.sz) T fr us 0 xs w hq (q2.imp id And.left) (by omega) hc.2.1
  simp only [Nat.add_zero] at hst
  refine ⟨hst, ?_⟩
  have hg : w.grownBy (w.setRow b (xs.toList.take (off * l'.sz) ++ us ++ xs.toList.drop (off * l'.sz + us.length)).toArray) l'.blk :=
    ⟨rfl, rfl, rfl, by simp, fun j _ hj => setRow_other w b j _ (fun e => hj (by rw [hb, e]))⟩
  refine hr.upd hi hl hg (.inl rfl) (.inl rfl) (fun b m _ hm => by rw [hr.lims _ _ _ hi hl] at hm; cases hm) ((hr.lims _ _ _ hi hl).trans rfl) fun hx => ?_
  simp only [ObjRel, hb]
  have hall : ∀ e ∈ es.take off ++ news ++ es.drop (off + news.length), e.cells.length = l'.sz := by
    intro e he
    rcases List.mem_append.1 he with he | he
    · rcases List.mem_append.1 he with he | he
      · exact o3 e (List.mem_of_mem_take he)
      · exact hns e he
    · exact o3 e (List.mem_of_mem_drop he)
  refine ⟨o1, o2, hall, by simp; omega, o5, _, fr, setRow_heap w b xs _ T fr hq, ?_, ?_, ?_⟩
  · rcases q2 with q2 | q2
    · exact .inl q2
    · right; refine ⟨?_, q2.2⟩; have := q2.1; simp; omega
  · simp; omega
  · intro k y j x hk hj
    have hyl : y.cells.length = l'.sz := hall y (List.mem_of_getElem? hk)
    have hjl : j < l'.sz := by rw [← hyl]; exact (List.getElem?_eq_some_iff.1 hj).1
    simp only [List.getElem?_toArray]
    rw [splice_get xs.toList us (off * l'.sz) (k * l'.sz + j) (by simpa using hfit)]
    rw [splice_get2 es news off k hoff] at hk
    by_cases h1 : k < off
    · rw [if_pos h1] at hk
      have : (k + 1) * l'.sz ≤ off * l'.sz := Nat.mul_le_mul_right _ h1
      rw [Nat.succ_mul] at this
      rw [if_pos (by omega)]
      obtain ⟨v, v1, v2, v3⟩ := q4 k y j x hk hj
      exact ⟨v, by simpa using v1, v2, v3.ext hx⟩
    · rw [if_neg h1] at hk
      have e1 : k * l'.sz = off * l'.sz + (k - off) * l'.sz := by rw [← Nat.add_mul]; congr 1; omega
      by_cases h2 : k < off + news.length
      · rw [if_pos h2] at hk
        have hf := flat_get hns hk hj
        have hfl := (List.getElem?_eq_some_iff.1 hf).1
        rw [flat_length hns] at hfl
        rw [if_neg (by rw [e1]; omega), if_pos (by rw [e1, husl]; omega)]
        have e2 : k * l'.sz + j - off * l'.sz = (k - off) * l'.sz + j := by rw [e1]; omega
        rw [e2]
        have hul : (k - off) * l'.sz + j < us.length := by rw [husl]; exact hfl
        have hu := List.getElem?_eq_getElem hul
        exact ⟨_, hu, hc.2.1 _ (List.mem_of_getElem? hu), (hc.2.2 _ _ _ hf hu).ext hx⟩
      · rw [if_neg h2] at hk
        have : (off + news.length) * l'.sz ≤ k * l'.sz := Nat.mul_le_mul_right _ (by omega)
        rw [Nat.add_mul] at this
        rw [if_neg (by omega), if_neg (by rw [husl]; omega)]
        obtain ⟨v, v1, v2, v3⟩ := q4 k y j x hk hj
        exact ⟨v, by simpa using v1, v2, v3.ext hx⟩

/-- An object is written down as it is. -/
theorem R.set_same {E : Env} {Γ : Ctx} {σ : Store} {w : World} {i : Nat} {o : AObj} (hr : R E Γ σ w) (hi : σ.get i = some o) : R E Γ (σ.set i o) w := by
  have : σ.set i o = σ := by
    unfold Store.set
    cases σ with
    | mk get next =>
      simp only [Store.mk.injEq, and_true]
      funext j
      split
      · rename_i e; subst e; exact hi.symm
      · rfl
  rw [this]; exact hr

/-! ### What a slice's first elements are -/
def aSLen : AV → Option Nat
  | .ps es => some es.length
  | .nl => some 0
  | .rs _ _ _ len => some len
  | .rc _ _ _ len _ => some len
  | _ => none

def aFirst (σ : Store) (x : AV) (n : Nat) : Option (List AV) :=
  match x with
  | .ps es => some (es.take n)
  | .nl => some []
  | .rs i g off _ => aElems σ (.rs i g off n)
  | .rc i g off _ _ => aElems σ (.rs i g off n)
  | _ => none

theorem run_first {E : Env} {Γ : Ctx} {σ : Store} {w : World} {x : AV} {xv : Value} {es : List AV} {sz m n : Nat} (hr : R E Γ σ w) (hx : VR Γ w x xv) (hm : aSLen x = some m) (hn : n ≤ m) (h : aFirst σ x n = some es) (hs : ∀ e ∈ es, e.cells.length = sz) :
    es.length = n ∧ (∃ us : List Value, CellsRel Γ w (flat es) us ∧ ∀ w', w'.heap = w.heap → (Builtin.firstCells sz n xv).run E.P w' = .ok us.toArray w') ∧ ∀ w' : World, (Builtin.lenOf xv).run E.P w' = .ok m w' := by
  have hrow : ∀ (a : Option Addr) (len cap i g off : Nat), n ≤ len → len ≤ cap → i < Γ.next → (∀ l, Γ.get i = some l → g ≤ l.gen ∧ (l.gen = g → l.rsAt off len a cap)) → aElems σ (.rs i g off n) = some es →
      es.length = n ∧ (∃ us : List Value, CellsRel Γ w (flat es) us ∧ ∀ w', w'.heap = w.heap → (Builtin.firstCells sz n (.slice a len cap)).run E.P w' = .ok us.toArray w') := by
    intro a len cap i g off hnl hlc hi hat hel
    have hlen : es.length = n := by
      unfold aElems at hel
      simp only at hel
      split at hel
      · split at hel
        · cases hel; simp; omega
        · cases hel
      · cases hel
    have hv : VR Γ w (.rs i g off n) (.slice a n cap) := by
      refine .rs i g off n a cap hi (by omega) fun l hl => ⟨(hat l hl).1, fun e => ?_⟩
      have h2 := (hat l hl).2 e
      unfold Loc.rsAt at h2 ⊢
      split
      · rename_i hb; simp only [hb] at h2; exact ⟨h2.1, by omega, h2.2.2⟩
      · rename_i b hb; simp only [hb] at h2; exact h2
    obtain ⟨us, u1, u2⟩ := run_firstCells hr hv hel hs
    refine ⟨hlen, us, u1, fun w' hw' => ?_⟩
    have := u2 w' hw'
    rw [hlen] at this
    cases a <;> exact this
  unfold aSLen at hm
  split at hm
  · rename_i es0
    cases hm
    cases hx with
    | ps _ a cap b o us hc ha hw h1 hv =>
      simp only [aFirst, Option.some.injEq] at h
      subst h
      have hlen : (es0.take n).length = n := by simp; omega
      have hv' : VR Γ w (.ps (es0.take n)) (.slice a (es0.take n).length cap) := by
        refine .ps _ a cap b o us (by simp; omega) (fun hne => ha (by intro e; subst e; simp at hne)) ?_ ?_ ?_
        · intro k e j y hk hj
          rw [List.getElem?_take] at hk
          split at hk
          · exact hw k e j y hk hj
          · cases hk
        · intro k e j y hk hj
          rw [List.getElem?_take] at hk
          split at hk
          · exact h1 k e j y hk hj
          · cases hk
        · intro k e j y hk hj
          rw [List.getElem?_take] at hk
          split at hk
          · exact hv k e j y hk hj
          · cases hk
      obtain ⟨us', u1, u2⟩ := run_firstCells (es := es0.take n) hr hv' rfl hs
      refine ⟨hlen, ⟨us', u1, fun w' hw' => ?_⟩, fun w' => by simp [Builtin.lenOf]⟩
      have := u2 w' hw'
      rw [hlen] at this
      cases a <;> exact this
  · cases hm
    cases hx with
    | nl a =>
      simp only [aFirst, Option.some.injEq] at h
      subst h
      obtain rfl : n = 0 := by omega
      refine ⟨rfl, ⟨[], ⟨rfl, by simp, by simp [flat]⟩, fun w' _ => ?_⟩, fun w' => by simp [Builtin.lenOf]⟩
      cases a <;> simp [Builtin.firstCells, loadCells, loadCellsFrom]
  · rename_i i g off len
    cases hm
    cases hx with
    | rs _ _ _ _ a cap hi hl hat =>
      obtain ⟨k1, k2⟩ := hrow a _ cap i g off hn hl hi hat h
      exact ⟨k1, k2, fun w' => by simp [Builtin.lenOf]⟩
  · rename_i i g off len cap
    cases hm
    cases hx with
    | rc _ _ _ _ _ a hi hl hat =>
      obtain ⟨k1, k2⟩ := hrow a _ cap i g off hn hl hi hat h
      exact ⟨k1, k2, fun w' => by simp [Builtin.lenOf]⟩
  · cases hm

/-! ### A slice of the store that is written -/
def aOwn : AV → Option (Nat × Nat × Nat × Nat)
  | .rs i g off len => some (i, g, off, len)
  | .rc i g off len _ => some (i, g, off, len)
  | _ => none

theorem own_inv {Γ : Ctx} {w : World} {x : AV} {xv : Value} {i g off len : Nat} (hx : VR Γ w x xv) (h : aOwn x = some (i, g, off, len)) :
    ∃ a cap, xv = .slice a len cap ∧ i < Γ.next ∧ len ≤ cap ∧ ∀ l, Γ.get i = some l → g ≤ l.gen ∧ (l.gen = g → l.rsAt off len a cap) := by
  unfold aOwn at h
  split at h
  · cases h; exact hx.rs_inv
  · rename_i cap
    cases h
    cases hx with
    | rc _ _ _ _ _ a h1 h2 h3 => exact ⟨a, cap, rfl, h1, h2, h3⟩
  · cases h

def aCopy (E : Env) (t : TypeId) (dst src : AV) (σ : Store) (K : AV → Store → Prop) : Prop :=
  match tk E.P t, aOwn dst, aSLen src with
  | .slc e, some (i, g, off, len), some s => tsz E.P e ≠ 0 ∧ (match σ.get i, aFirst σ src (min s len) with
    | some (.arr T g' es), some news => g = g' ∧ tsz E.P e = tsz E.P T ∧ off ≤ es.length ∧ (∀ a ∈ news, a.cells.length = tsz E.P e) ∧
        K (.c (.int .i64 (min s len : Nat))) (σ.set i (.arr T g (es.take off ++ news ++ es.drop (off + news.length))))
    | _, _ => False)
  | _, _, _ => False

theorem aCopy_ok {E : Env} {Γ : Ctx} {σ : Store} {w : World} {t u ty : TypeId} {x y : AV} {xv yv : Value} {K : AV → Store → Prop} (hr : R E Γ σ w) (hx : VR Γ w x xv) (hy : VR Γ w y yv) (h : aCopy E t x y σ K) :
    ∃ v w', (Builtin.copy_ #[t, u] ty #[xv, yv]).run E.P w = .ok v w' ∧ Res E Γ w K v w' := by
  unfold aCopy at h
  split at h
  · rename_i e i g off len s ht how hs
    have hu := tk_slc ht
    obtain ⟨hnz, h⟩ := h
    split at h
    · rename_i T g' es news hget hfirst
      obtain ⟨rfl, hsz, hoff, hns, h⟩ := h
      obtain ⟨a, cap, rfl, hin, hlc, hat⟩ := own_inv hx how
      obtain ⟨l, hl, ho, hlt⟩ := hr.loc hget
      have ho' := ho
      simp only [ObjRel] at ho
      obtain ⟨o1, o2, o3, o4, o5, o6⟩ := ho
      have hlsz : l.sz = tsz E.P e := by rw [o2, hsz]; rfl
      obtain ⟨f1, ⟨us, f2, f3⟩, f4⟩ := run_first (n := min s len) hr hy hs (Nat.min_le_left _ _) hfirst hns
      have hsize := run_tsz hnz
      have hat' := (hat l hl).2 o1
      have hmin : Nat.min s len = min s len := rfl
      unfold Loc.rsAt at hat'
      cases hb : l.blk with
      | none =>
        simp only [hb] at hat' o6
        obtain ⟨rfl, hle0⟩ := o6
        have hn0 : news = [] := List.eq_nil_of_length_eq_zero (by rw [f1]; omega)
        subst hn0
        have hus : us = [] := List.eq_nil_of_length_eq_zero (by rw [f2.1]; rfl)
        subst hus
        have hoff0 : off = 0 := hat'.1
        subst hoff0
        refine ⟨.int .i64 (min s len : Nat), w, ?_, ?_⟩
        · have := f3 w rfl
          cases a <;> simp [Builtin.copy_, run_underlying hu, f4, hsize, hmin, this, goInt, storeCells]
        · refine ⟨Γ, _, _, ExtN.refl Γ w (Nat.le_refl _), hr.set_same (o := .arr T g ([].take 0 ++ [] ++ [].drop (0 + [].length))) (by simpa using hget), .c _ rfl, h⟩
      | some b =>
        simp only [hb] at hat' o6
        obtain ⟨a1, a2, a3⟩ := hat'
        obtain ⟨xs, fr, q1, q2, q3, q4⟩ := o6
        obtain ⟨w1, w2, w3⟩ := write_row hr hget hl hb q1 f2 (fun y hy => by rw [hlsz]; exact hns y hy) hoff (by rw [f1]; omega)
        by_cases hcap : cap = 0
        · have hn0 : news = [] := List.eq_nil_of_length_eq_zero (by rw [f1]; omega)
          subst hn0
          have hus : us = [] := List.eq_nil_of_length_eq_zero (by rw [f2.1]; rfl)
          subst hus
          refine ⟨.int .i64 (min s len : Nat), w, ?_, ?_⟩
          · have := f3 w rfl
            cases a <;> simp [Builtin.copy_, run_underlying hu, f4, hsize, hmin, this, goInt, storeCells]
          · refine ⟨Γ, _, _, ExtN.refl Γ w (Nat.le_refl _), hr.set_same (by simpa using hget), .c _ rfl, h⟩
        · have had : a = some ⟨b, off * l.sz, none⟩ := by rcases a2 with a2 | a2; exact absurd a2 hcap; exact a2
          subst had
          refine ⟨.int .i64 (min s len : Nat), _, ?_, ⟨_, _, _, w2, w3, .c _ rfl, h⟩⟩
          have := f3 w rfl
          simp [Builtin.copy_, run_underlying hu, f4, hsize, hmin, this, goInt, w1]
    · exact h.elim
  · exact h.elim

def aClear (E : Env) (t : TypeId) (x : AV) (σ : Store) (K : Store → Prop) : Prop :=
  match tk E.P t, aOwn x with
  | .slc e, some (i, g, off, len) => tsz E.P e ≠ 0 ∧ (azero E.P e).ok = true ∧ tsz E.P e = (azero E.P e).cells.length ∧ (match σ.get i with
    | some (.arr T g' es) => g = g' ∧ tsz E.P e = tsz E.P T ∧ off ≤ es.length ∧ K (σ.set i (.arr T g (es.take off ++ List.replicate len (azero E.P e) ++ es.drop (off + len))))
    | _ => False)
  | _, _ => False

theorem aClear_ok {E : Env} {Γ : Ctx} {σ : Store} {w : World} {t ty : TypeId} {x : AV} {xv : Value} {K : AV → Store → Prop} (hr : R E Γ σ w) (hx : VR Γ w x xv) (h : aClear E t x σ fun σ' => K (.tup []) σ') :
    ∃ v w', (Builtin.clear_ #[t] ty #[xv]).run E.P w = .ok v w' ∧ Res E Γ w K v w' := by
  unfold aClear at h
  split at h
  · rename_i e i g off len ht how
    have hu := tk_slc ht
    obtain ⟨hnz, hok, hzs, h⟩ := h
    split at h
    · rename_i T g' es hget
      obtain ⟨rfl, hsz, hoff, h⟩ := h
      obtain ⟨a, cap, rfl, hin, hlc, hat⟩ := own_inv hx how
      obtain ⟨l, hl, ho, hlt⟩ := hr.loc hget
      simp only [ObjRel] at ho
      obtain ⟨o1, o2, o3, o4, o5, o6⟩ := ho
      have hlsz : l.sz = tsz E.P e := by rw [o2, hsz]; rfl
      have hat' := (hat l hl).2 o1
      have hzero : len = 0 → ∃ v w', (Builtin.clear_ #[t] ty #[.slice a len cap]).run E.P w = .ok v w' ∧ Res E Γ w K v w' := by
        rintro rfl
        refine ⟨.tuple #[], w, ?_, ⟨Γ, _, _, ExtN.refl Γ w (Nat.le_refl _), hr.set_same (o := .arr T g (es.take off ++ List.replicate 0 (azero E.P e) ++ es.drop (off + 0))) (by simpa using hget), VR.undef_ _ _, h⟩⟩
        cases a <;> simp [Builtin.clear_, run_underlying hu]
      by_cases hl0 : len = 0
      · exact hzero hl0
      unfold Loc.rsAt at hat'
      cases hb : l.blk with
      | none => simp only [hb] at hat'; omega
      | some b =>
        simp only [hb] at hat' o6
        obtain ⟨a1, a2, a3⟩ := hat'
        obtain ⟨xs, fr, q1, q2, q3, q4⟩ := o6
        have had : a = some ⟨b, off * l.sz, none⟩ := by rcases a2 with a2 | a2; omega; exact a2
        subst had
        obtain ⟨z, hz1, hz2⟩ := run_azero (Γ := Γ) (w := w) hok
        have hzc := zero_cells (n := len) hz2 hok hzs hnz
        have hzsz : z.cells.size = tsz E.P e := by rw [hzs]; exact ((hz2.cells hok).1).symm
        obtain ⟨w1, w2, w3⟩ := write_row hr hget hl hb q1 hzc (fun y hy => by rw [(List.mem_replicate.1 hy).2, hlsz, hzs]) hoff (by simp; omega)
        refine ⟨.tuple #[], _, ?_, ⟨_, _, _, w2, w3, VR.undef_ _ _, by simpa using h⟩⟩
        obtain ⟨m, rfl⟩ : ∃ m, len = m + 1 := ⟨len - 1, by omega⟩
        have hzr : Builtin.zeroCells z.cells (m + 1) = (Array.range ((m + 1) * tsz E.P e)).map (z.cells[· % z.cells.size]!) := by unfold Builtin.zeroCells; rw [hzsz]
        simp [Builtin.clear_, run_underlying hu, hz1, hzr]
        simp at w1
        rw [w1]
        rfl
    · exact h.elim
  · exact h.elim
end Go.AW
