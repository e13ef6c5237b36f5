/- A slice of the store at a call's entry: its capacity is some number. slices.overlaps at a slice of the store and another one that is only read. No condition. -/
import Derived.Test.YtkbklfodaemkoaaDoorS3
import Derived.Laws.Externs
set_option linter.unusedVariables false
set_option linter.unusedSimpArgs false
set_option linter.unnecessarySimpa false
namespace Go.AW
open Go

/-- Whatever the capacity is. -/
theorem ACalls.caps {E : Env} {f : FuncId} {o g off len : Nat} {args : List AV} {σ : Store} {Q : AV → Store → Prop} (h : ∀ c, len ≤ c → ACalls E f (.rc o g off len c :: args) σ Q) : ACalls E f (.rs o g off len :: args) σ Q := by
  intro Γ w vs hr hv
  obtain ⟨hl, hv⟩ := hv
  cases hvs : vs.toList with
  | nil => rw [hvs] at hl; simp at hl
  | cons v vl =>
    have h0 := hv 0 _ v rfl (by rw [hvs]; rfl)
    cases h0 with
    | rs _ _ _ _ a cap hi hlc hat =>
      refine h cap hlc Γ w vs hr ⟨by simpa using hl, fun j x u hx hu => ?_⟩
      cases j with
      | zero =>
        simp at hx
        subst hx
        rw [hvs] at hu
        cases hu
        exact .rc o g off len cap a hi hlc hat
      | succ j => exact hv (j + 1) x u (by simpa using hx) hu

/-- What is known of a row's end is forgotten. -/
theorem R.trim {E : Env} {Γ : Ctx} {σ : Store} {w : World} (hr : R E Γ σ w) {i : Nat} {T : TypeId} {g : Nat} {es : List AV} (hi : σ.get i = some (.arr T g es)) (k : Nat) : R E Γ (σ.set i (.arr T g (es.take k))) w := by
  refine ⟨hr.next, fun j => ?_, fun j hj => ?_, hr.inj, fun j o l ho hl => ?_, hr.glob, hr.gbel, hr.base, fun j o l ho hl => ?_⟩
  · rw [hr.dom j, set_get]
    split
    · rename_i e; subst e; rw [hi]; rfl
    · rfl
  · rw [set_get]
    split
    · rename_i e; subst e
      have := hr.bnd j (by simpa using hj)
      rw [hi] at this; cases this
    · exact hr.bnd j (by simpa using hj)
  · rw [set_get] at ho
    split at ho
    · rename_i e; subst e
      cases ho
      have h0 := hr.objs _ _ l hi hl
      simp only [ObjRel] at h0 ⊢
      obtain ⟨a1, a2, a3, a4, a5, a6⟩ := h0
      refine ⟨a1, a2, fun e he => a3 e (List.mem_of_mem_take he), by rw [List.length_take]; omega, a5, ?_⟩
      cases hb : l.blk with
      | none => simp only [hb] at a6 ⊢; exact ⟨by rw [a6.1]; simp, a6.2⟩
      | some b =>
        simp only [hb] at a6 ⊢
        obtain ⟨xs, fr, q1, q2, q3, q4⟩ := a6
        refine ⟨xs, fr, q1, q2, q3, fun n e j x hk hj => ?_⟩
        rw [List.getElem?_take] at hk
        split at hk
        · exact q4 n e j x hk hj
        · cases hk
    · exact hr.objs j o l ho hl
  · rw [set_get] at ho
    split at ho
    · rename_i e; subst e
      cases ho
      exact (hr.lims _ _ l hi hl).trans rfl
    · exact hr.lims j o l ho hl
theorem ACalls.trim {E : Env} {f : FuncId} {args : List AV} {σ : Store} {Q Q' : AV → Store → Prop} (h : ACalls E f args σ Q) (hq : ∀ a s, Q a s → ∃ i T g es k, s.get i = some (.arr T g es) ∧ Q' a (s.set i (.arr T g (es.take k)))) : ACalls E f args σ Q' := by
  intro Γ w vs hr hv
  refine (h Γ w vs hr hv).mono ?_
  rintro e w' (⟨v, rfl, Γ', a, s, h1, h2, h3, h4⟩ | h)
  · obtain ⟨i, T, g, es, k, h5, h6⟩ := hq a s h4
    exact .inl ⟨v, rfl, Γ', a, _, h1, h2.trim h5 k, h3, h6⟩
  · exact .inr h

theorem run_overlaps_other {P : Program} (w : World) (tS tR e : TypeId) (ht : P.underlying tS = some (.slice e)) (size : Nat) (hz : ∀ w, (Go.sizeOf e).run P w = .ok size w)
    (a b : Addr) (la ca lb cb : Nat) (hne : a.block ≠ b.block) (tA tB : TypeId) (kA kB : Nat)
    (hsa : w.shape? a.block = some (tA, kA)) (hsb : w.shape? b.block = some (tB, kB)) (hkA : kA ≠ 0)
    (hfb : w.frozen? b = false) (hfe : w.frozen? { block := b.block, off := kB } = false) :
    (Extern.SlicesOverlaps.overlaps #[tS, tS] #[tR] #[.slice (some a) la ca, .slice (some b) lb cb]).run P w = .ok (.bool false) w := by
  have hnb : (a.block != b.block) = true := by simpa using hne
  have hnb' : (a.block == b.block) = false := by simpa using hne
  change Sem.run P (α := Value) (do
    let some t := (#[tS, tS] : Array TypeId)[0]? | Go.stuck "slices.overlaps: no parameter types"
    let .slice elem ← underlying t | Go.stuck "slices.overlaps: slice type expected"
    let size ← Go.sizeOf elem
    match (some a : Option Addr), (some b : Option Addr) with
    | some a, some b =>
      if la = 0 ∨ lb = 0 ∨ size = 0 then pure (Value.bool false)
      else if a.block != b.block && (← frozen a) && (← frozen b) then unsupported .addressObserved
      else do
        if a.block != b.block then do
          noView a; noView b
          if ← mayBeOne a b then return Value.bool ((← choose (.extern "sameAddr.stringBytes" 2)) == 1)
        pure (Value.bool (a.block == b.block && a.off < b.off + lb * size && b.off < a.off + la * size))
    | _, _ => pure (Value.bool false)) w = _
  by_cases h0 : la = 0 ∨ lb = 0 ∨ size = 0
  · simp [run_underlying ht, hz, h0]
  · cases kA with
    | zero => exact absurd rfl hkA
    | succ kA =>
      cases hfa : w.frozen? a <;> cases hfa2 : w.frozen? { block := a.block, off := kA + 1 } <;>
        simp [run_underlying ht, hz, h0, hnb, hnb', frozen, noView, viewAt, mayBeOne, stringish, shape, Sem.run, hsa, hsb, hfb, hfe, hfa, hfa2]
theorem run_overlaps_none {P : Program} (w : World) (tS tR e : TypeId) (ht : P.underlying tS = some (.slice e)) (size : Nat) (hz : ∀ w, (Go.sizeOf e).run P w = .ok size w) (a b : Option Addr) (la ca cb : Nat) :
    (Extern.SlicesOverlaps.overlaps #[tS, tS] #[tR] #[.slice a la ca, .slice b 0 cb]).run P w = .ok (.bool false) w := by
  change Sem.run P (α := Value) (do
    let some t := (#[tS, tS] : Array TypeId)[0]? | Go.stuck "slices.overlaps: no parameter types"
    let .slice elem ← underlying t | Go.stuck "slices.overlaps: slice type expected"
    let size ← Go.sizeOf elem
    match (a : Option Addr), (b : Option Addr) with
    | some a, some b =>
      if la = 0 ∨ 0 = 0 ∨ size = 0 then pure (Value.bool false)
      else if a.block != b.block && (← frozen a) && (← frozen b) then unsupported .addressObserved
      else do
        if a.block != b.block then do
          noView a; noView b
          if ← mayBeOne a b then return Value.bool ((← choose (.extern "sameAddr.stringBytes" 2)) == 1)
        pure (Value.bool (a.block == b.block && a.off < b.off + 0 * size && b.off < a.off + la * size))
    | _, _ => pure (Value.bool false)) w = _
  cases a <;> cases b <;> simp [run_underlying ht, hz]

/-- What is only read does not overlap with a row of the store. -/
theorem overlaps_no {E : Env} {k : FuncId} {fn : Func} {tS tR e T : TypeId} {x c : AV} {xs cs row : List AV} {i g off len cap : Nat} {σ : Store} (hf : E.P.funcs[k]? = some fn) (hname : (fn.name == "runtime.NumGoroutine") = false) (hb : fn.body.isNone = true)
    (hn : Extern.findNext fn = none) (he : Extern.find fn = some (Extern.SlicesOverlaps.overlaps #[tS, tS] #[tR])) (ht : tk E.P tS = .slc e) (hz : tsz E.P e ≠ 0) (hi : σ.get i = some (.arr T g row)) (hsz : tsz E.P T ≠ 1) (hx : x.cells = c :: cs) :
    AExt E k [.ps (x :: xs), .rc i g off len cap] σ fun a s => a = .c (.bool false) ∧ s = σ := by
  intro Γ w vs hr hv
  obtain ⟨hl, hv⟩ := hv
  obtain ⟨v0, v1, hvs⟩ : ∃ v0 v1, vs.toList = [v0, v1] := by
    match hm : vs.toList, hl with
    | [v0, v1], _ => exact ⟨v0, v1, rfl⟩
  rw [hvs] at hv
  have h0 := hv 0 _ v0 rfl rfl
  have h1 := hv 1 _ v1 rfl rfl
  have hvs' := toList_two hvs
  subst hvs'
  have hu := tk_slc ht
  have hzz := fun w => run_tsz hz w
  cases h0 with
  | ps _ a ca ba oa us hca haa hw hw1 hw2 =>
  cases h1 with
  | rc _ _ _ _ _ b hin hlc hat =>
  refine ⟨.bool false, w, ?_, Res.same hr (.c _ rfl) ⟨rfl, rfl⟩⟩
  rw [run_callFunc_extern hf hname hb hn he]
  obtain ⟨rfl, hlt⟩ := haa (by simp)
  by_cases hl0 : len = 0
  · subst hl0
    rw [run_overlaps_none w tS tR e hu (tsz E.P e) hzz]
    rfl
  · obtain ⟨l, hgl, ho, _⟩ := hr.loc hi
    have hlim := hr.lims _ _ _ hi hgl
    simp only [ObjRel] at ho
    obtain ⟨o1, o2, o3, o4, o5, o6⟩ := ho
    have hat' := (hat l hgl).2 o1
    unfold Loc.rsAt at hat'
    cases hblk : l.blk with
    | none => simp only [hblk] at hat'; omega
    | some bb =>
      simp only [hblk] at hat' o6
      obtain ⟨q1, q2, q3⟩ := hat'
      obtain ⟨ys, fr, r1, r2, r3, r4⟩ := o6
      have hbb : b = some ⟨bb, off * l.sz, none⟩ := by rcases q2 with q2 | q2; omega; exact q2
      subst hbb
      obtain ⟨hc0, hfx⟩ := hw 0 x 0 c rfl (by rw [hx]; rfl)
      have hne : ba ≠ bb := by
        intro e0
        subst e0
        obtain ⟨m, hm, _⟩ := hfx i l hgl hblk
        rw [hlim] at hm
        cases hm
      have hsha : ∃ t n, w.shape? ba = some (t, n) ∧ n ≠ 0 := by
        unfold World.cell? at hc0
        unfold World.shape?
        cases hh : w.heap[ba]? with
        | none => simp [hh] at hc0
        | some o =>
          cases o with
          | cells zs t f =>
            refine ⟨t, zs.size, rfl, fun e0 => ?_⟩
            simp only [hh] at hc0
            have := (Array.getElem?_eq_some_iff.1 (by simpa using hc0)).1
            omega
          | _ => simp [hh] at hc0
      obtain ⟨tA, kA, hsa, hkA⟩ := hsha
      have hshb : w.shape? bb = some (T, ys.size) := by unfold World.shape?; rw [r1]
      have hfr : ∀ n, w.frozen? ⟨bb, n, none⟩ = false := by
        intro n
        unfold World.frozen?
        simp only [r1]
        rcases r2 with r2 | ⟨_, r2⟩
        · obtain ⟨f1, f2⟩ := fr
          simp only at r2
          subst r2
          simp
        · rw [o2] at r2; exact absurd r2 hsz
      rw [run_overlaps_other w tS tR e hu (tsz E.P e) hzz ⟨ba, oa, none⟩ ⟨bb, off * l.sz, none⟩ _ _ _ _ hne tA T kA ys.size hsa hshb hkA (hfr _) (hfr _)]
      rfl
end Go.AW
