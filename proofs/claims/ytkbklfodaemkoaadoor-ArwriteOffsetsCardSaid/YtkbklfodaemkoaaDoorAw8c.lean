/- append into known room, beyond a known capacity, and of made elements; cap; the three-index cut. No condition. -/
import Derived.Test.YtkbklfodaemkoaaDoorAw8b
set_option linter.unusedVariables false
set_option linter.unusedSimpArgs false
set_option linter.unnecessarySimpa false
namespace Go.AW
open Go

/-- An append that finds room. -/
theorem run_append_room {P : Program} {w : World} {t u ty e : TypeId} {i : TypeInfo} {sz : Nat} (ht : P.underlying t = some (.slice e)) (hu : P.underlying u = some .string ∨ ∃ e', P.underlying u = some (.slice e'))
    (hi : P.info? e = some i) (hsize : i.size = sz) {b n cap m : Nat} {xv : Value} {news : List Value} {w' : World} (hlen : ∀ w' : World, (Builtin.lenOf xv).run P w' = .ok m w')
    (hnew : ∀ w' : World, w'.heap = w.heap → (Builtin.firstCells sz m xv).run P w' = .ok news.toArray w') (hroom : n + m ≤ cap) (hst : (storeCells ⟨b, n * sz, none⟩ news).run P w = .ok () w') :
    (Builtin.append_ #[t, u] ty #[.slice (some ⟨b, 0, none⟩) n cap, xv]).run P w = .ok (.slice (some ⟨b, 0, none⟩) (n + m) cap) w' := by
  have hn := hnew w rfl
  rcases hu with hu | ⟨e', hu⟩ <;> simp [Builtin.append_, run_underlying ht, run_underlying hu, sizeOf, typeInfo, hi, hsize, hlen, hroom, hn, addr_add, hst]

/-- 's' has 'len' elements and the row has known room behind them; or its capacity is known and too small. -/
def aAppendP (E : Env) (t u : TypeId) (i g off len : Nat) (T : TypeId) (es : List AV) (x : AV) (σ : Store) (K : AV → Store → Prop) : Prop :=
  (tk E.P u = .str ∨ ∃ e, tk E.P u = .slc e) ∧ match tk E.P t with
    | .slc e => tsz E.P e ≠ 0 ∧ T = e ∧ off = 0 ∧ (match aElems σ x with
      | some news => (∀ a ∈ news, a.cells.length = tsz E.P e) ∧ len + news.length ≤ es.length ∧ K (.rs i g 0 (len + news.length)) (σ.set i (.arr T g (es.take len ++ news ++ es.drop (len + news.length))))
      | none => False)
    | _ => False

def aAppendC (E : Env) (t u : TypeId) (i g off len cap : Nat) (T : TypeId) (es : List AV) (x : AV) (σ : Store) (K : AV → Store → Prop) : Prop :=
  (tk E.P u = .str ∨ ∃ e, tk E.P u = .slc e) ∧ match tk E.P t with
    | .slc e => tsz E.P e ≠ 0 ∧ (azero E.P e).ok = true ∧ tsz E.P e = (azero E.P e).cells.length ∧ tsz E.P e = tsz E.P T ∧ off + len ≤ es.length ∧ (match aElems σ x with
      | some news => (∀ a ∈ news, a.cells.length = tsz E.P e) ∧ cap < len + news.length ∧ (len + news.length) * tby E.P e ≤ 140737488355328 ∧ len + news.length ≤ maxLen ∧
          K (.rs σ.next 0 0 (len + news.length)) (σ.alloc (.arr e 0 ((es.drop off).take len ++ news)))
      | none => False)
    | _ => False

def aAppendM (E : Env) (t : TypeId) (i g off len cap : Nat) (T : TypeId) (es : List AV) (k : Int) (σ : Store) (K : AV → Store → Prop) : Prop :=
  match tk E.P t with
    | .slc e => tsz E.P e ≠ 0 ∧ (azero E.P e).ok = true ∧ tsz E.P e = (azero E.P e).cells.length ∧ tsz E.P e = tsz E.P T ∧ off + len ≤ es.length ∧ 0 < k ∧ cap < len + k ∧ (len + k.toNat) * tby E.P e ≤ 140737488355328 ∧ len + k ≤ maxLen ∧
          K (.rs σ.next 0 0 (len + k.toNat)) (σ.alloc (.arr e 0 ((es.drop off).take len ++ List.replicate k.toNat (azero E.P e))))
    | _ => False

theorem aAppendP_ok {E : Env} {Γ : Ctx} {σ : Store} {w : World} {t u ty : TypeId} {i g off len T : Nat} {es : List AV} {x : AV} {sv xv : Value} {K : AV → Store → Prop} (hr : R E Γ σ w) (hsv : VR Γ w (.rs i g off len) sv) (hxv : VR Γ w x xv)
    (hget : σ.get i = some (.arr T g es)) (h : aAppendP E t u i g off len T es x σ K) : ∃ v w', (Builtin.append_ #[t, u] ty #[sv, xv]).run E.P w = .ok v w' ∧ Res E Γ w K v w' := by
  obtain ⟨hu', h⟩ := h
  have hu : E.P.underlying u = some .string ∨ ∃ e', E.P.underlying u = some (.slice e') := by
    rcases hu' with hu' | ⟨e, hu'⟩
    · exact .inl (tk_str hu')
    · exact .inr ⟨e, tk_slc hu'⟩
  split at h
  · rename_i e ht'
    have ht := tk_slc ht'
    obtain ⟨hnz, rfl, rfl, h⟩ := h
    split at h
    · rename_i news hel
      obtain ⟨hns, hroom, h⟩ := h
      obtain ⟨inf, hi, hsize⟩ : ∃ inf, E.P.info? T = some inf ∧ inf.size = tsz E.P T := by
        unfold tsz cellsOf' at *
        cases hi : E.P.info? T with
        | none => simp [hi] at hnz
        | some inf => exact ⟨inf, rfl, by simp⟩
      have hlen := fun w' => run_lenOf (E := E) hxv hel w'
      obtain ⟨us, husc, hnew⟩ := run_firstCells hr hxv hel hns
      obtain ⟨a, cap, rfl, hin, hlc, hat⟩ := hsv.rs_inv
      obtain ⟨l, hl, ho, hlt⟩ := hr.loc hget
      simp only [ObjRel] at ho
      obtain ⟨o1, o2, o3, o4, o5, o6⟩ := ho
      have hlsz : l.sz = tsz E.P T := o2
      have hat' := (hat l hl).2 o1
      unfold Loc.rsAt at hat'
      cases hb : l.blk with
      | none =>
        simp only [hb] at hat' o6
        obtain ⟨rfl, hcap0⟩ := o6
        obtain ⟨_, rfl, rfl⟩ := hat'
        have hn0 : news = [] := List.eq_nil_of_length_eq_zero (by simpa using hroom)
        subst hn0
        have hus : us = [] := List.eq_nil_of_length_eq_zero (by rw [husc.1]; rfl)
        subst hus
        refine ⟨_, w, run_append_zero ht hu hi hsize (by simpa using hlen) (by simpa using hnew) (Nat.le_refl 0), ?_⟩
        exact ⟨Γ, _, _, ExtN.refl Γ w (Nat.le_refl _), hr.set_same (o := .arr T g ([].take 0 ++ [] ++ [].drop (0 + [].length))) (by simpa using hget), by simpa using hsv, h⟩
      | some b =>
        simp only [hb] at hat' o6
        obtain ⟨a1, a2, a3⟩ := hat'
        obtain ⟨xs, fr, q1, q2, q3, q4⟩ := o6
        have had := a3 trivial
        subst had
        obtain ⟨w1, w2, w3⟩ := write_row hr hget hl hb q1 husc (fun y hy => by rw [hlsz]; exact hns y hy) (off := len) (by omega) (by omega)
        rw [hlsz] at w1 w2 w3
        refine ⟨_, _, run_append_room (ty := ty) ht hu hi hsize hlen hnew (by omega) w1, ⟨_, _, _, w2, w3, ?_, h⟩⟩
        refine .rs i g 0 _ _ cap (by simpa [Ctx.set] using hin) (by omega) fun l2 hl2 => ?_
        simp [Ctx.set] at hl2
        subst hl2
        refine ⟨by omega, fun _ => ?_⟩
        unfold Loc.rsAt
        simp only [hb]
        exact ⟨a1, by simp, fun _ => trivial⟩
    · exact h.elim
  · exact h.elim

theorem rc_inv {Γ : Ctx} {w : World} {i g off len cap : Nat} {v : Value} (h : VR Γ w (.rc i g off len cap) v) :
    ∃ a, v = .slice a len cap ∧ len ≤ cap ∧ VR Γ w (.rs i g off len) v := by
  cases h with
  | rc _ _ _ _ _ a h1 h2 h3 => exact ⟨a, rfl, h2, .rs i g off len a cap h1 h2 h3⟩

/-- A new row: what a slice held, then other elements, then what the new capacity says. -/
theorem grown_row {E : Env} {Γ : Ctx} {σ : Store} {w : World} {e : TypeId} {olds news : List AV} {ous nus : List Value} {zs : Array Value} {c : Nat} {K : AV → Store → Prop} (hr : R E Γ σ w) (h1 : CellsRel Γ w (flat olds) ous) (h2 : CellsRel Γ w (flat news) nus)
    (hs1 : ∀ y ∈ olds, y.cells.length = tsz E.P e) (hs2 : ∀ y ∈ news, y.cells.length = tsz E.P e) (hc : olds.length + news.length ≤ c) (hm : c ≤ maxLen) (hz : zs.size = (c - (olds.length + news.length)) * tsz E.P e)
    (h : K (.rs σ.next 0 0 (olds.length + news.length)) (σ.alloc (.arr e 0 (olds ++ news)))) :
    Res E Γ w K (.slice (some ⟨w.heap.size, 0, none⟩) (olds.length + news.length) c) (w.drew.alloc (.cells (ous.toArray ++ (nus.toArray ++ zs)) e)) := by
  have hall : ∀ y ∈ olds ++ news, y.cells.length = tsz E.P e := fun y hy => by
    rcases List.mem_append.1 hy with hy | hy
    · exact hs1 y hy
    · exact hs2 y hy
  have hcr : CellsRel Γ w (flat (olds ++ news)) (ous ++ nus) := by rw [flat_append]; exact h1.append h2
  have hrow : RowRel Γ w (tsz E.P e) (olds ++ news) (ous.toArray ++ (nus.toArray ++ zs)) := by
    refine ⟨hall, fun k y j x hk hj => ?_⟩
    have hf := flat_get hall hk hj
    have hlt : k * tsz E.P e + j < (ous ++ nus).length := by rw [hcr.1]; exact (List.getElem?_eq_some_iff.1 hf).1
    have hu := List.getElem?_eq_getElem hlt
    refine ⟨_, ?_, hcr.2.1 _ (List.mem_of_getElem? hu), hcr.2.2 _ _ _ hf hu⟩
    rw [← hu]
    simp only [Array.getElem?_append, List.size_toArray, List.getElem?_toArray, List.getElem?_append]
    split
    · rfl
    · rw [if_pos (by rw [List.length_append] at hlt; omega)]
  have := new_owned (K := K) (e := e) (es := olds ++ news) (xs := ous.toArray ++ (nus.toArray ++ zs)) (fr := (0, 0)) (cap := c) (w' := w.drew.alloc (.cells (ous.toArray ++ (nus.toArray ++ zs)) e)) hr hrow (by simpa using hc) hm (by
    simp only [Array.size_append, List.size_toArray, h1.1, h2.1, flat_length hs1, flat_length hs2, hz]
    rw [← Nat.add_mul, ← Nat.add_mul]; congr 1; omega) (.inl rfl) (grown_of_drew_alloc w _ _) (heap_alloc_new w.drew _) (by simpa using h)
  simpa using this

theorem aAppendC_ok {E : Env} {Γ : Ctx} {σ : Store} {w : World} {t u ty : TypeId} {i g off len cap T : Nat} {es : List AV} {x : AV} {sv xv : Value} {K : AV → Store → Prop} (hr : R E Γ σ w) (hsv : VR Γ w (.rc i g off len cap) sv) (hxv : VR Γ w x xv)
    (hget : σ.get i = some (.arr T g es)) (h : aAppendC E t u i g off len cap T es x σ K) : ∃ v w', (Builtin.append_ #[t, u] ty #[sv, xv]).run E.P w = .ok v w' ∧ Res E Γ w K v w' := by
  obtain ⟨hu', h⟩ := h
  have hu : E.P.underlying u = some .string ∨ ∃ e', E.P.underlying u = some (.slice e') := by
    rcases hu' with hu' | ⟨e, hu'⟩
    · exact .inl (tk_str hu')
    · exact .inr ⟨e, tk_slc hu'⟩
  split at h
  · rename_i e ht'
    have ht := tk_slc ht'
    obtain ⟨hnz, hzok, hzs, hTe, hoff, h⟩ := h
    split at h
    · rename_i news hel
      obtain ⟨hns, hcap, hby, hmx, h⟩ := h
      obtain ⟨inf, hi, hsize⟩ : ∃ inf, E.P.info? e = some inf ∧ inf.size = tsz E.P e := by
        unfold tsz cellsOf' at *
        cases hi : E.P.info? e with
        | none => simp [hi] at hnz
        | some inf => exact ⟨inf, rfl, by simp⟩
      have hbys : tby E.P e = inf.bytes := by simp [tby, hi]
      obtain ⟨z, hz, hzv⟩ : ∃ z, inf.zero = some z ∧ VR Γ w (azero E.P e) z := by
        unfold azero tzero at *
        cases hzz : inf.zero with
        | none => simp [hi, hzz, AV.ok] at hzok
        | some z => exact ⟨z, rfl, by simpa [hi, hzz] using VR.ofV Γ w z⟩
      have hzsz : z.cells.size = tsz E.P e := by rw [hzs]; exact ((hzv.cells hzok).1).symm
      have hlen := fun w' => run_lenOf (E := E) hxv hel w'
      obtain ⟨us, husc, hnew⟩ := run_firstCells hr hxv hel hns
      obtain ⟨a, rfl, hlc, hrs⟩ := rc_inv hsv
      obtain ⟨l, hl, ho, hlt⟩ := hr.loc hget
      simp only [ObjRel] at ho
      obtain ⟨o1, o2, o3, o4, o5, o6⟩ := ho
      have hlsz : l.sz = tsz E.P e := by rw [o2, hTe]; rfl
      have hos : ∀ y ∈ (es.drop off).take len, y.cells.length = tsz E.P e := fun y hy => by rw [← hlsz]; exact o3 y (List.mem_of_mem_drop (List.mem_of_mem_take hy))
      have hol : ((es.drop off).take len).length = len := by simp; omega
      obtain ⟨olds, ho1, ho2⟩ := run_firstCells (x := .rs i g off len) (es := (es.drop off).take len) hr hrs (by simp [aElems, hget]; omega) hos
      rw [hol] at ho2
      have holl : olds.length = len * tsz E.P e := by rw [ho1.1, flat_length hos, hol]
      have husl : us.length = news.length * tsz E.P e := by rw [husc.1, flat_length hns]
      rcases run_append_gen (ty := ty) (cap := cap) (n := len) (a := a) (olds := olds) ht hu hi hz hsize hlen hnew husl husc.2.1 ho2 holl hlc (fun hh => by omega) hmx (by rw [← hbys]; exact hby) with ⟨hh, _⟩ | ⟨c, c1, c2, hrun⟩
      · omega
      · refine ⟨_, _, hrun, ?_⟩
        have := grown_row (K := K) (zs := Builtin.zeroCells z.cells (c - (len + news.length))) (c := c) hr ho1 husc hos hns (by rw [hol]; exact c1) c2 (by rw [size_zeroCells, hzsz, hol]) (by rw [hol]; exact h)
        rwa [hol] at this
    · exact h.elim
  · exact h.elim

theorem aAppendM_ok {E : Env} {Γ : Ctx} {σ : Store} {w : World} {t u ty : TypeId} {i g off len cap T : Nat} {es : List AV} {kq kn : IntKind} {k : Int} {sv : Value} {K : AV → Store → Prop} (hr : R E Γ σ w) (hsv : VR Γ w (.rc i g off len cap) sv)
    (hu : tk E.P u = .int kn) (hget : σ.get i = some (.arr T g es)) (h : aAppendM E t i g off len cap T es k σ K) : ∃ v w', (Builtin.append_ #[t, u] ty #[sv, .int kq k]).run E.P w = .ok v w' ∧ Res E Γ w K v w' := by
  unfold aAppendM at h
  split at h
  · rename_i e ht'
    have ht := tk_slc ht'
    obtain ⟨hnz, hzok, hzs, hTe, hoff, hk0, hcap, hby, hmx, h⟩ := h
    obtain ⟨n, rfl⟩ := Int.eq_ofNat_of_zero_le (Int.le_of_lt hk0)
    simp only [Int.toNat_natCast] at *
    obtain ⟨inf, hi, hsize⟩ : ∃ inf, E.P.info? e = some inf ∧ inf.size = tsz E.P e := by
      unfold tsz cellsOf' at *
      cases hi : E.P.info? e with
      | none => simp [hi] at hnz
      | some inf => exact ⟨inf, rfl, by simp⟩
    have hbys : tby E.P e = inf.bytes := by simp [tby, hi]
    obtain ⟨z, hz, hzv⟩ : ∃ z, inf.zero = some z ∧ VR Γ w (azero E.P e) z := by
      unfold azero tzero at *
      cases hzz : inf.zero with
      | none => simp [hi, hzz, AV.ok] at hzok
      | some z => exact ⟨z, rfl, by simpa [hi, hzz] using VR.ofV Γ w z⟩
    have hzsz : z.cells.size = tsz E.P e := by rw [hzs]; exact ((hzv.cells hzok).1).symm
    obtain ⟨a, rfl, hlc, hrs⟩ := rc_inv hsv
    obtain ⟨l, hl, ho, hlt⟩ := hr.loc hget
    simp only [ObjRel] at ho
    obtain ⟨o1, o2, o3, o4, o5, o6⟩ := ho
    have hlsz : l.sz = tsz E.P e := by rw [o2, hTe]; rfl
    have hos : ∀ y ∈ (es.drop off).take len, y.cells.length = tsz E.P e := fun y hy => by rw [← hlsz]; exact o3 y (List.mem_of_mem_drop (List.mem_of_mem_take hy))
    have hol : ((es.drop off).take len).length = len := by simp; omega
    obtain ⟨olds, ho1, ho2⟩ := run_firstCells (x := .rs i g off len) (es := (es.drop off).take len) hr hrs (by simp [aElems, hget]; omega) hos
    rw [hol] at ho2
    have hg : cap < len + n := by omega
    have hmx' : len + n ≤ maxLen := by omega
    have hfit := growslice_fits (bytes := inf.bytes) hg (by rw [← hbys]; exact hby)
    have hkb : n * inf.bytes ≤ 281474976710656 := by
      have : n * tby E.P e ≤ (len + n) * tby E.P e := Nat.mul_le_mul_right _ (by omega)
      rw [← hbys]; omega
    have hrun := Lib.run_append_grow_zeros (P := E.P) w t u ty e inf z kq kn ht (tk_int hu) hi hz a len cap olds (by rw [hsize]; exact ho2 w.drew rfl) n (by omega) (by rw [hsize]; omega) hg (by simp only [maxLen] at hmx'; omega) hkb (by omega)
    refine ⟨_, _, hrun, ?_⟩
    have hcr := zero_cells (n := n) hzv hzok hzs hnz
    have hns : ∀ y ∈ List.replicate n (azero E.P e), y.cells.length = tsz E.P e := fun y hy => by rw [(List.mem_replicate.1 hy).2, hzs]
    have hzr : Builtin.zeroCells z.cells n = (Array.range (n * tsz E.P e)).map (z.cells[· % z.cells.size]!) := by unfold Builtin.zeroCells; rw [hzsz]
    have := grown_row (K := K) (zs := Builtin.zeroCells z.cells (grownCap w (len + n) cap e - (len + n))) (c := grownCap w (len + n) cap e) hr ho1 hcr hos hns (by rw [hol]; simp [grownCap_ge]) (grownCap_le_maxLen _ _ _ _ hmx')
      (by rw [size_zeroCells, hzsz, hol]; simp) (by rw [hol]; simpa using h)
    rw [hol] at this
    rw [hzr, Array.append_assoc]
    simp only [List.length_replicate, Array.toArray_toList] at this
    exact this
  · exact h.elim

/-- append, whatever is known of the slice. -/
def aAppend2 (E : Env) (own : Nat) (t u : TypeId) (s x : AV) (σ : Store) (K : AV → Store → Prop) : Prop :=
  match s with
  | .rc i g off len cap => (match σ.get i with
    | some (.arr T g' es) => g = g' ∧ (if off = 0 ∧ len = es.length then aAppend E t u (.rs i g off len) x σ K else (match tk E.P u, x with
      | .int _, .c (.int _ k) => aAppendM E t i g off len cap T es k σ K
      | _, _ => aAppendC E t u i g off len cap T es x σ K))
    | _ => False)
  | .rs i g off len => (match σ.get i with
    | some (.arr T g' es) => if len = es.length then aAppend E t u (.rs i g off len) x σ K else g = g' ∧ aAppendP E t u i g off len T es x σ K
    | _ => False)
  | .nl => if own = 1 then aAppend E t u .nl x σ K else aAppendL E t u .nl x σ K
  | .lg i es => aAppendL E t u (.lg i es) x σ K
  | _ => False

theorem aAppend2_ok {own : Nat} {E : Env} {Γ : Ctx} {σ : Store} {w : World} {t u ty : TypeId} {s x : AV} {sv xv : Value} {K : AV → Store → Prop} (hr : R E Γ σ w) (hsv : VR Γ w s sv) (hxv : VR Γ w x xv)
    (h : aAppend2 E own t u s x σ K) : ∃ v w', (Builtin.append_ #[t, u] ty #[sv, xv]).run E.P w = .ok v w' ∧ Res E Γ w K v w' := by
  unfold aAppend2 at h
  split at h
  · rename_i i g off len cap
    split at h
    · rename_i T g' es hget
      obtain ⟨rfl, h⟩ := h
      split at h
      · obtain ⟨a, rfl, _, hrs⟩ := rc_inv hsv
        exact aAppend_ok hr hrs hxv h
      · split at h
        · rename_i kn kq k hu
          cases hxv
          exact aAppendM_ok hr hsv hu hget h
        · exact aAppendC_ok hr hsv hxv hget h
    · exact h.elim
  · split at h
    · rename_i T g' es hget
      split at h
      · exact aAppend_ok hr hsv hxv h
      · obtain ⟨rfl, h⟩ := h
        exact aAppendP_ok hr hsv hxv hget h
    · exact h.elim
  · split at h
    · exact aAppend_ok hr hsv hxv h
    · exact aAppendL_ok hr hsv hxv h
  · exact aAppendL_ok hr hsv hxv h
  · exact h.elim

/-- The capacity, where it is known. -/
def aCap (E : Env) (t : TypeId) (x : AV) (K : AV → Prop) : Prop :=
  match tk E.P t, x with
  | .slc _, .rc _ _ _ _ cap => K (.c (.int .i64 cap))
  | _, _ => False

theorem aCap_ok {E : Env} {Γ : Ctx} {σ : Store} {w : World} {t ty : TypeId} {x : AV} {xv : Value} {K : AV → Store → Prop} (hr : R E Γ σ w) (hx : VR Γ w x xv) (h : aCap E t x fun a => K a σ) :
    ∃ v, (Builtin.cap_ #[t] ty #[xv]).run E.P w = .ok v w ∧ Res E Γ w K v w := by
  unfold aCap at h
  split at h
  · rename_i ht
    obtain ⟨a, rfl, _, _⟩ := rc_inv hx
    exact ⟨_, by simp [Builtin.cap_, goInt, run_underlying (tk_slc ht)], Res.same hr (.c _ rfl) h⟩
  · exact h.elim

/-- A cut with a third index: what it yields is not known. -/
def aSlice3 (E : Env) (t : TypeId) (x : AV) (lo hi mx : Option AV) (σ : Store) (K : AV → Prop) : Prop :=
  match tk E.P t, aOwn x, lo, hi, mx with
  | .slc e, some (i, g, off, len), some (.c (.int _ l)), some (.c (.int _ h)), some (.c (.int _ m)) => tsz E.P e ≠ 0 ∧ 0 ≤ l ∧ l ≤ h ∧ h ≤ m ∧ m ≤ len ∧ K .junk
  | _, _, _, _, _ => False

theorem aSlice3_ok {E : Env} {Γ : Ctx} {σ : Store} {w : World} {t : TypeId} {x : AV} {xv : Value} {lo hi mx : Option AV} {lov hiv mxv : Option Value} {K : AV → Store → Prop} (hr : R E Γ σ w) (hx : VR Γ w x xv)
    (hlo : IxRel Γ w lo lov) (hhi : IxRel Γ w hi hiv) (hmx : IxRel Γ w mx mxv) (h : aSlice3 E t x lo hi mx σ fun a => K a σ) : Up E Γ w K ((do pure (.value (← Instr.sliceAt t xv lov hiv mxv)) : Sem Next).run E.P w) := by
  unfold aSlice3 at h
  split at h
  · rename_i e i g off len kl l kh h' km m ht how
    obtain ⟨hnz, h0, h1, h2, h3, h⟩ := h
    obtain ⟨a, cap, rfl, hin, hlc, hat⟩ := own_inv hx how
    have hu := tk_slc ht
    have hs := run_tsz hnz w
    obtain ⟨v, rfl⟩ : ∃ v, lov = some v := by cases lov with | none => exact hlo.elim | some v => exact ⟨v, rfl⟩
    obtain ⟨v', rfl⟩ : ∃ v, hiv = some v := by cases hiv with | none => exact hhi.elim | some v => exact ⟨v, rfl⟩
    obtain ⟨v'', rfl⟩ : ∃ v, mxv = some v := by cases mxv with | none => exact hmx.elim | some v => exact ⟨v, rfl⟩
    have e1 : VR Γ w (.c (.int kl l)) v := hlo
    have e2 : VR Γ w (.c (.int kh h')) v' := hhi
    have e3 : VR Γ w (.c (.int km m)) v'' := hmx
    cases e1; cases e2; cases e3
    have hb : ∀ (k : IntKind) (i : Int) (y : Nat) (code : BoundsCode), 0 ≤ i → i ≤ y → (Instr.sliceBound (.int k i) y code).run E.P w = .ok i.toNat w := fun k i y code a b => by simp [Instr.sliceBound, asIntOf, a, b]
    have hbs : ∃ r : Nat × Nat × Nat, (Instr.sliceBounds true len cap (some (.int kl l)) (some (.int kh h')) (some (.int km m))).run E.P w = .ok r w := by
      refine ⟨(l.toNat, h'.toNat, m.toNat), ?_⟩
      simp [Instr.sliceBounds, hb km m cap _ (by omega) (by omega), hb kh h' m.toNat _ (by omega) (by omega), hb kl l h'.toNat _ h0 (by omega)]
    obtain ⟨⟨r1, r2, r3⟩, hbs⟩ := hbs
    refine Up.value (v := .slice (if r3 = r1 then a else a.map (·.add (r1 * tsz E.P e))) (r2 - r1) (r3 - r1)) (w' := w) ?_ (Res.same hr (.junk _) h)
    simp [Instr.sliceAt, Instr.slice, run_underlying hu, hbs, hs]
  · exact h.elim
end Go.AW
