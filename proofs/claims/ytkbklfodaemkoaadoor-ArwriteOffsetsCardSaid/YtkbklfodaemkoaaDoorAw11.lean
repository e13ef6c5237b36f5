/- The contract of a function out of its text; small words for proofs about abstract values. No condition. -/
import Derived.Test.YtkbklfodaemkoaaDoorAw10
set_option linter.unusedVariables false
set_option linter.unusedSimpArgs false
set_option linter.unnecessarySimpa false
namespace Go.AW
open Go

theorem VR.belongs {Γ : Ctx} {w : World} {a : AV} {v : Value} (h : VR Γ w a v) : Bel Γ.next a := by
  induction h with
  | c v h => exact .c v
  | junk v => exact .junk
  | nl a => exact .nl
  | agg cs xs hs h1 _ ih =>
    refine .agg cs fun a ha => ?_
    obtain ⟨j, hj, rfl⟩ := List.getElem_of_mem ha
    exact ih j _ (xs[j]'(by omega)) (List.getElem?_eq_getElem hj) (Array.getElem?_eq_getElem (by omega))
  | tup cs xs hs _ ih =>
    refine .tup cs fun a ha => ?_
    obtain ⟨j, hj, rfl⟩ := List.getElem_of_mem ha
    exact ih j _ (xs[j]'(by omega)) (List.getElem?_eq_getElem hj) (Array.getElem?_eq_getElem (by omega))
  | ps es a cap b o us hc ha hw h1 _ ih =>
    refine .ps es fun e he => ?_
    obtain ⟨k, hk, rfl⟩ := List.getElem_of_mem he
    have hk' := List.getElem?_eq_getElem hk
    generalize es[k] = e at hk'
    cases e with
    | agg cs =>
      refine .agg cs fun x hx => ?_
      obtain ⟨j, hj, rfl⟩ := List.getElem_of_mem hx
      exact ih k _ j _ hk' (List.getElem?_eq_getElem (l := cs) hj)
    | _ => exact ih k _ 0 _ hk' rfl
  | fs l b cap hb hc hh => exact .fs l
  | pp cs b o us hb hw h1 _ ih =>
    refine .pp cs fun x hx => ?_
    obtain ⟨j, hj, rfl⟩ := List.getElem_of_mem hx
    exact ih j _ (List.getElem?_eq_getElem hj)
  | rs i g off len a cap hi hl h => exact .rs i g off len hi
  | rc i g off len cap a hi hl h => exact .rc i g off len cap hi
  | lg i es v _ _ _ ih1 ih2 =>
    cases ih1 with
    | ps _ h1 => cases ih2 with | rs _ _ _ _ h2 => exact .lg i es h2 h1
  | rp i g k off a hi h => exact .rp i g k off hi
  | mp i r hi h => exact .mp i hi
  | fn f first cap xs ys hx hy _ _ ih ih' =>
    refine .fn f first cap (fun a ha => ?_) (fun a ha => ?_)
    · obtain ⟨j, hj, rfl⟩ := List.getElem_of_mem ha
      exact ih j _ (xs[j]'(by omega)) (List.getElem?_eq_getElem hj) (Array.getElem?_eq_getElem (by omega))
    · obtain ⟨j, hj, rfl⟩ := List.getElem_of_mem ha
      exact ih' j _ (ys[j]'(by omega)) (List.getElem?_eq_getElem hj) (Array.getElem?_eq_getElem (by omega))
  | ifc t a v _ ih => exact .ifc t a ih

theorem R.storeBel {E : Env} {Γ : Ctx} {σ : Store} {w : World} (hr : R E Γ σ w) : StoreBel σ := by
  intro i o ho
  obtain ⟨l, hl, hob, hlt⟩ := hr.loc ho
  refine ⟨hlt, ?_⟩
  rw [← hr.next]
  cases o with
  | log T m => trivial
  | lp b L => trivial
  | it o => trivial
  | mi m since seen last =>
    obtain ⟨h0, b, bm, q1, q2, q3⟩ := hob
    have := q3.belongs
    cases this
    assumption
  | arr T g es =>
    simp only [ObjRel] at hob
    obtain ⟨h1, h2, h3, h4, h5, h6⟩ := hob
    intro e he x hx
    obtain ⟨k, hk, rfl⟩ := List.getElem_of_mem he
    obtain ⟨j, hj, rfl⟩ := List.getElem_of_mem hx
    cases hb : l.blk with
    | none => simp only [hb] at h6; rw [h6.1] at hk; simp at hk
    | some b =>
      simp only [hb] at h6
      obtain ⟨xs, fr, q1, q2, q3, q4⟩ := h6
      obtain ⟨u, _, _, hv⟩ := q4 k _ j _ (List.getElem?_eq_getElem hk) (List.getElem?_eq_getElem hj)
      exact hv.belongs
  | map ents born clock =>
    obtain ⟨h0, b, es, q1, q2, q3, q4, q5⟩ := hob
    intro en hen
    obtain ⟨k, hk, rfl⟩ := List.getElem_of_mem hen
    exact (q4 k _ _ (Array.getElem?_eq_getElem (by omega)) (List.getElem?_eq_getElem hk)).2.belongs

/-! ### Results -/
def aRes (E : Env) : List ResultVar → (Nat → AV) → Store → (List AV → Prop) → Prop
  | [], _, _, K => K []
  | .tmp t :: rs, f, σ, K => aRes E rs f σ fun l => K (f t :: l)
  | .cell a t :: rs, f, σ, K => aLoad E t (f a) σ fun v => aRes E rs f σ fun l => K (v :: l)

def pack (l : List AV) : AV :=
  match l with
  | [a] => a
  | l => .tup l

/-- What a function hands back, what the store then holds: perhaps with objects forgotten. -/
def Fin (n : Nat) (σ : Store) (a : AV) (Q : AV → Store → Prop) : Prop := ∃ a' σ2, Forget n σ σ2 ∧ SR σ σ2 a a' ∧ Belf σ σ2 a' ∧ Q a' σ2

def RetPost (E : Env) (n : Nat) (rs : List ResultVar) (Q : AV → Store → Prop) : AExit → (Nat → AV) → Store → Prop
  | .normal, f, σ => aRes E rs f σ fun l => Fin n σ (pack l) Q
  | .ret, f, σ => aRes E rs f σ fun l => Fin n σ (pack l) Q
  | _, _, _ => False

def argF (args : List AV) : Nat → AV := fun t => args.getD t .junk

theorem aLoadV_ok {E : Env} {Γ : Ctx} {σ : Store} {w : World} {t : TypeId} {x : AV} {xv : Value} {K : AV → Prop} (hr : R E Γ σ w) (hx : VR Γ w x xv) (h : aLoad E t x σ K) :
    ∃ a v va, xv = .pointer (some a) ∧ (loadVar t a).run E.P w = .ok v w ∧ VR Γ w va v ∧ K va := by
  unfold aLoad at h
  split at h
  · obtain ⟨b, o, rfl, h1, h2, h3⟩ := hx.pp_cells
    obtain ⟨v, a, r1, r2, r3⟩ := aLoadC_ok h3 h
    exact ⟨_, v, a, rfl, r1, r2, r3⟩
  · split at h
    · rename_i T g' es hi
      obtain ⟨rfl, h⟩ := h
      split at h
      · rename_i e hk
        obtain ⟨l, b, _, _, _, rfl, hc⟩ := hr.rp_cells hx hi hk
        obtain ⟨v, a, r1, r2, r3⟩ := aLoadC_ok hc h
        exact ⟨_, v, a, rfl, r1, r2, r3⟩
      · exact h.elim
    · exact h.elim
  · exact h.elim

/-- One result. -/
def resOne (tmps : Array Value) : ResultVar → Sem Value
  | .tmp t => pure (tmps.getD t Go.undef)
  | .cell a t => do loadVar t (← asAddr (tmps.getD a Go.undef))

theorem aRes_ok {E : Env} {N : Nat} {Γ : Ctx} {σ : Store} {w : World} {f : Nat → AV} {tmps : Array Value} (hr : R E Γ σ w) (ht : TR N Γ w f tmps) : ∀ (rs : List ResultVar) (K : List AV → Prop), aRes E rs f σ K →
    ∃ (vs : List Value) (l : List AV), (rs.mapM (resOne tmps)).run E.P w = .ok vs w ∧ VRs Γ w l vs ∧ K l
  | [], K, h => ⟨[], [], rfl, ⟨rfl, by intro j a v h; simp at h⟩, h⟩
  | .tmp t :: rs, K, h => by
    obtain ⟨vs, l, h1, h2, h3⟩ := aRes_ok hr ht rs _ h
    have hv : VR Γ w (f t) (tmps.getD t Go.undef) := by
      by_cases htn : t < N
      · exact ht.rel t htn
      · rw [ht.far t (Nat.le_of_not_lt htn)]; exact .junk _
    refine ⟨tmps.getD t Go.undef :: vs, f t :: l, ?_, ⟨by simp [h2.1], ?_⟩, h3⟩
    · rw [List.mapM_cons]; simp only [resOne, Sem.run_bind, Sem.run_pure, Result.andThen_ok, h1]
    · intro j a v ha hb
      cases j with
      | zero => obtain rfl := Option.some.inj ha; obtain rfl := Option.some.inj hb; exact hv
      | succ j => exact h2.2 j a v (by simpa using ha) (by simpa using hb)
  | .cell c t :: rs, K, h => by
    have hv : VR Γ w (f c) (tmps.getD c Go.undef) := by
      by_cases htn : c < N
      · exact ht.rel c htn
      · rw [ht.far c (Nat.le_of_not_lt htn)]; exact .junk _
    obtain ⟨ad, v, va, e1, e2, e3, h⟩ := aLoadV_ok hr hv h
    obtain ⟨vs, l, h1, h2, h3⟩ := aRes_ok hr ht rs _ h
    refine ⟨v :: vs, va :: l, ?_, ⟨by simp [h2.1], ?_⟩, h3⟩
    · rw [List.mapM_cons]; simp only [resOne, Sem.run_bind, Sem.run_pure, Result.andThen_ok, e1, asAddr, e2, h1]
    · intro j a v ha hb
      cases j with
      | zero => obtain rfl := Option.some.inj ha; obtain rfl := Option.some.inj hb; exact e3
      | succ j => exact h2.2 j a v (by simpa using ha) (by simpa using hb)

theorem results_ok {E : Env} {N : Nat} {Γ : Ctx} {σ : Store} {w : World} {f : Nat → AV} {tmps : Array Value} {fn : Func} {K : AV → Prop} (hr : R E Γ σ w) (ht : TR N Γ w f tmps) (h : aRes E fn.results.toList f σ fun l => K (pack l)) :
    ∃ v a, (results fn tmps).run E.P w = .ok v w ∧ VR Γ w a v ∧ K a := by
  obtain ⟨vs, l, h1, h2, h3⟩ := aRes_ok hr ht _ _ h
  refine ⟨if hh : vs.toArray.size = 1 then vs.toArray[0] else .tuple vs.toArray, pack l, ?_, ?_, h3⟩
  · have he : results fn tmps = (do
        let vs ← fn.results.mapM (resOne tmps)
        pure (if hh : vs.size = 1 then vs[0] else .tuple vs)) := by
      unfold results
      first | rfl | (congr 1; done) | (congr 1; congr 1; done) | (congr 1; congr 1; funext x; cases x <;> rfl)
    rw [he, Array.mapM_eq_mapM_toList]
    simp only [Sem.run_bind, Sem.run_map, h1, Result.andThen_ok, Sem.run_pure]
  · obtain ⟨k1, k2⟩ := h2
    match l, vs, k1 with
    | [a], [v], _ => exact k2 0 a v rfl rfl
    | [], [], _ => exact .tup [] #[] rfl (by intro j a v h; simp at h)
    | a :: b :: l, u :: v :: vs, k1 =>
      have : ¬ ((u :: v :: vs).toArray.size = 1) := by simp
      rw [dif_neg this]
      exact .tup _ _ (by simpa using k1) fun j a x ha hx => k2 j a x ha (by simpa using hx)

/-! ### Blocks for the deferred calls of rounds are shut at a function's end -/
/-- Only such blocks have changed. -/
structure Quiet (w w' : World) : Prop where
  os : w'.os = w.os
  tape : w'.tape = w.tape
  output : w'.output = w.output
  size : w'.heap.size = w.heap.size
  same : ∀ b : Nat, (∃ x, w.heap[b]? = some (Obj.deferred x)) ∨ w'.heap[b]? = w.heap[b]?
theorem Quiet.refl (w : World) : Quiet w w := ⟨rfl, rfl, rfl, rfl, fun _ => .inr rfl⟩
theorem Quiet.obj {w w' : World} (h : Quiet w w') {b : Nat} {o : Obj} (ho : w.heap[b]? = some o) (hn : ∀ x, o ≠ .deferred x) : w'.heap[b]? = some o := by
  rcases h.same b with ⟨x, hx⟩ | e
  · rw [ho] at hx; cases hx; exact absurd rfl (hn x)
  · rw [e]; exact ho
theorem Quiet.cell {w w' : World} (h : Quiet w w') {a : Addr} {v : Value} (hc : w.cell? a = some v) : w'.cell? a = some v := by
  rcases h.same a.block with ⟨x, hx⟩ | e
  · unfold World.cell? at hc; rw [hx] at hc; cases hc
  · rw [World.cell?_of_block (w := w) e]; exact hc
theorem VR.quiet {Γ : Ctx} {w w' : World} (hq : Quiet w w') {a : AV} {v : Value} (h : VR Γ w a v) : VR Γ w' a v := by
  induction h with
  | c v h => exact .c v h
  | junk v => exact .junk v
  | nl a => exact .nl a
  | agg cs xs hs h1 _ ih => exact .agg cs xs hs h1 ih
  | tup cs xs hs _ ih => exact .tup cs xs hs ih
  | ps es a cap b o us hc ha hw h1 _ ih => exact .ps es a cap b o us hc (fun hne => ⟨(ha hne).1, by rw [hq.size]; exact (ha hne).2⟩) (fun k e j x hk hj => ⟨hq.cell (hw k e j x hk hj).1, (hw k e j x hk hj).2⟩) h1 ih
  | fs l b cap hb hc hh =>
    obtain ⟨xs, t, fr, h1, h2⟩ := hh
    exact .fs l b cap ⟨hb.1, by rw [hq.size]; exact hb.2.1, hb.2.2⟩ hc ⟨xs, t, fr, hq.obj h1 (by simp), h2⟩
  | pp cs b o us hb hw h1 _ ih => exact .pp cs b o us (by rw [hq.size]; exact hb) (fun j x hj => ⟨hq.cell (hw j x hj).1, (hw j x hj).2⟩) h1 ih
  | rs i g off len a cap hi hl h => exact .rs i g off len a cap hi hl h
  | rc i g off len cap a hi hl h => exact .rc i g off len cap a hi hl h
  | lg i es v h1 h2 h3 ih1 ih2 => exact .lg i es v ih1 ih2 h3
  | rp i g k off a hi h => exact .rp i g k off a hi h
  | mp i r hi h => exact .mp i r hi h
  | fn f first cap xs ys hx hy _ _ ih ih' => exact .fn f first cap xs ys hx hy ih ih'
  | ifc t a v _ ih => exact .ifc t a v ih
theorem GR.quiet {Γ : Ctx} {w w' : World} {cs : List AV} {g : Nat} (hq : Quiet w w') (h : GR Γ w cs g) : GR Γ w' cs g := ⟨h.vr.quiet hq, h.own, by obtain ⟨xs, t, fr, h1, h2⟩ := h.blk; exact ⟨xs, t, fr, hq.obj h1 (by simp), h2⟩⟩
theorem R.quiet {E : Env} {Γ : Ctx} {σ : Store} {w w' : World} (hr : R E Γ σ w) (hq : Quiet w w') : R E Γ σ w' := by
  refine ⟨hr.next, hr.dom, hr.bnd, hr.inj, fun i o l ho hl => ?_, fun g cs hg => (hr.glob g cs hg).quiet hq, hr.gbel, by rw [hq.size]; exact hr.base, hr.lims⟩
  have h := hr.objs i o l ho hl
  cases o with
  | arr T g es =>
    simp only [ObjRel] at h ⊢
    obtain ⟨h1, h2, h3, h4, h5, h6⟩ := h
    refine ⟨h1, h2, h3, h4, h5, ?_⟩
    cases hb : l.blk with
    | none => simp only [hb] at h6 ⊢; exact h6
    | some b =>
      simp only [hb] at h6 ⊢
      obtain ⟨xs, fr, q1, q2, q3, q4⟩ := h6
      refine ⟨xs, fr, hq.obj q1 (by simp), q2, q3, fun k e j x hk hj => ?_⟩
      obtain ⟨u, u1, u2, u3⟩ := q4 k e j x hk hj
      exact ⟨u, u1, u2, u3.quiet hq⟩
  | map ents born clock =>
    obtain ⟨h0, b, es, q1, q2, q3, q4, q5⟩ := h
    exact ⟨h0, b, es, q1, hq.obj q2 (by simp), q3, fun k e en hk hen => ⟨(q4 k e en hk hen).1, (q4 k e en hk hen).2.quiet hq⟩, q5⟩
  | log T m =>
    simp only [ObjRel] at h ⊢
    obtain ⟨h1, h2, h3, h4, h5⟩ := h
    refine ⟨h1, h2, h3, h4, ?_⟩
    cases hb : l.blk with
    | none => simp only [hb] at h5 ⊢; exact h5
    | some b =>
      simp only [hb] at h5 ⊢
      obtain ⟨xs, fr, q1, q2⟩ := h5
      exact ⟨xs, fr, hq.obj q1 (by simp), q2⟩
  | lp b L =>
    obtain ⟨h0, q1, q2⟩ := h
    exact ⟨h0, q1, hq.obj q2 (by simp)⟩
  | it o =>
    obtain ⟨h0, b, q1, q2, q3⟩ := h
    exact ⟨h0, b, q1, hq.obj q2 (by rintro x rfl; simp [itOk] at q3), q3⟩
  | mi m since seen last =>
    obtain ⟨h0, b, bm, q1, q2, q3⟩ := h
    exact ⟨h0, b, bm, q1, hq.obj q2 (by simp), q3.quiet hq⟩
theorem TR.quiet {N : Nat} {Γ : Ctx} {w w' : World} {f : Nat → AV} {tmps : Array Value} (h : TR N Γ w f tmps) (hq : Quiet w w') : TR N Γ w' f tmps := ⟨h.size, fun t ht => (h.rel t ht).quiet hq, h.far⟩
theorem ExtN.quiet {n : Nat} {Γ Γ' : Ctx} {w w1 w2 : World} (h : ExtN n Γ w Γ' w1) (hq : Quiet w1 w2) (hb : ∀ b : Nat, b < w.heap.size → w2.heap[b]? = w1.heap[b]?) : ExtN n Γ w Γ' w2 :=
  ⟨hq.os.trans h.os, hq.tape.trans h.tape, hq.output.trans h.output, by rw [hq.size]; exact h.size, fun b hlt ho => by rw [hb b hlt]; exact h.sealed b hlt ho,
    fun b k hlt hf => ⟨fun v hv => hq.cell ((h.fixd b k hlt hf).1 v hv), (h.fixd b k hlt hf).2⟩, h.locs, h.le, h.le', h.base⟩
/-- The marks are taken off, one by one. -/
theorem leavesM_marks {P : Program} {fn : Func} {tmps : Array Value} {R : Ending → World → Prop} {u : FrameMode} (hu : u ≠ .run) {hb : Nat} : ∀ (ms : List Nat) (w : World), ms.Nodup → (∀ D ∈ ms, hb ≤ D ∧ w.heap[D]? = some (.deferred (some []))) →
    (∀ w2, Quiet w w2 → (∀ b : Nat, b < hb → w2.heap[b]? = w.heap[b]?) → LeavesIn Fence.wide 0 P fn tmps R [] u w2) → LeavesInM Fence.wide 0 P fn tmps R (ms.map mark) u w
  | [], w, _, _, h => h w (Quiet.refl w) (fun _ _ => rfl)
  | D :: ms, w, hnd, hD, h => by
    obtain ⟨h1, h2⟩ := List.nodup_cons.1 hnd
    obtain ⟨hle, hd⟩ := hD D (by simp)
    have hlt := (Array.getElem?_eq_some_iff.1 hd).1
    refine ⟨hu, .inl ⟨D, w.putObj D (.deferred none), rfl, run_takeDeferred hd, ?_⟩⟩
    refine leavesM_marks hu ms _ h2 (fun x hx => ⟨(hD x (by simp [hx])).1, ?_⟩) fun w2 hq hb2 => ?_
    · rw [World.putObj_heap_other (by rintro rfl; exact h1 hx)]
      exact (hD x (by simp [hx])).2
    · refine h w2 ⟨hq.os, hq.tape, hq.output, by rw [hq.size]; simp, fun b => ?_⟩ fun b hb => ?_
      · by_cases e : b = D
        · subst e; exact .inl ⟨_, hd⟩
        · rcases hq.same b with ⟨x, hx⟩ | e'
          · rw [World.putObj_heap_other e] at hx; exact .inl ⟨x, hx⟩
          · rw [World.putObj_heap_other e] at e'; exact .inr e'
      · rw [hb2 b hb, World.putObj_heap_other (by omega)]
theorem leavesM_of_marks {P : Program} {fn : Func} {tmps : Array Value} {R : Ending → World → Prop} {u : FrameMode} {hb : Nat} {ds : List Deferred} {w : World} (hm : Marks w ([], hb) ds) (hu : u ≠ .run)
    (h : ∀ w2, Quiet w w2 → (∀ b : Nat, b < hb → w2.heap[b]? = w.heap[b]?) → LeavesIn Fence.wide 0 P fn tmps R [] u w2) : LeavesInM Fence.wide 0 P fn tmps R ds u w := by
  obtain ⟨_, ms, rfl, h2, h3⟩ := hm
  rw [List.append_nil]
  exact leavesM_marks hu ms w h2 h3 h

theorem ACalls.of_body {E : Env} {k : FuncId} {fn : Func} {c : Code} {args : List AV} {σ : Store} {Q : AV → Store → Prop} (hf : E.P.funcs[k]? = some fn) (hb : fn.body = some c) (hN : args.length ≤ fn.ntmps)
    (h : StoreBel σ → AW E σ.next fn.ntmps c (argF args) σ (RetPost E σ.next fn.results.toList Q)) : ACalls E k args σ Q := by
  intro Γ w vs hr hv
  have hsz : vs.size = args.length := by have := hv.1; simp at this; exact this.symm
  refine (callsIn_wide (n := 0)).1 (callsIn_of_wp_marks hf hb trivial (wpIn_mono (h hr.storeBel none ([], w.heap.size) Γ w _ (by rw [hr.next]; exact Nat.le_refl _) hr ?_ (Marks.refl w [])) ?_))
  · refine ⟨by simp; omega, fun t ht => ?_, fun t ht => ?_⟩
    · simp only [argF, Array.getD_eq_getD_getElem?, Array.getElem?_append]
      by_cases h1 : t < vs.size
      · rw [if_pos h1]
        have ha := List.getElem?_eq_getElem (l := args) (i := t) (by omega)
        have hx := Array.getElem?_eq_getElem h1
        rw [hx]
        simp only [List.getD, ha, Option.getD_some]
        exact hv.2 t _ _ ha (by rw [Array.getElem?_toList]; exact hx)
      · have : args[t]? = none := List.getElem?_eq_none_iff.2 (by omega)
        simp only [List.getD, this, Option.getD_none]
        exact .junk _
    · have : args[t]? = none := List.getElem?_eq_none_iff.2 (by omega)
      simp [argF, List.getD, this]
  · have hret : ∀ (Γ' : Ctx) (f' : Nat → AV) (σ' : Store) (a' : Act) (w' : World), ExtN σ.next Γ w Γ' w' → R E Γ' σ' w' → TR fn.ntmps Γ' w' f' a'.tmps → Marks w' ([], w.heap.size) a'.defers → aRes E fn.results.toList f' σ' (fun l => Fin σ.next σ' (pack l) Q) →
        LeavesInM Fence.wide 0 E.P fn a'.tmps (Ends E Γ w Q) a'.defers .returning w' := by
      intro Γ' f' σ' a' w' hx hr' ht' hm hres
      refine leavesM_of_marks hm (by simp) fun w2 hq hb => ?_
      obtain ⟨v, a, h1, h2, a2, σ2, h3, h4, h5, h6⟩ := results_ok (fn := fn) (K := fun a => Fin σ.next σ' a Q) (hr'.quiet hq) (ht'.quiet hq) hres
      obtain ⟨Γ2, k1, k2, k3⟩ := h3.ctx (hr'.quiet hq)
      have hx := hx.quiet hq hb
      rw [← hr.next] at hx k1
      exact ⟨v, h1, .inl ⟨v, rfl, Γ2, a2, σ2, hx.trans k1, k2, k3 _ _ _ h2 h4 h5, h6⟩⟩
    rintro e a' w' (⟨Γ', f', σ', x, h1, h2, h3, h4, h5, h6⟩ | ⟨v, rfl, ⟨Γ', b, σ', h1, h2, h3, h4⟩, h5⟩)
    · cases x <;> try exact h6.elim
      · cases e <;> try exact h1.elim
        exact hret Γ' f' σ' a' w' h2 h3 h4 h5 h6
      · cases e <;> try exact h1.elim
        exact hret Γ' f' σ' a' w' h2 h3 h4 h5 h6
    · refine leavesM_of_marks h5 (by simp) fun w2 hq hb => ?_
      have hx := h1.quiet hq hb
      rw [← hr.next] at hx
      exact .inr ⟨v, rfl, Γ', b, σ', hx, h2.quiet hq, h3.quiet hq, h4⟩

/-! ### Small words -/
@[simp] theorem bel_c (m : Nat) (v : Value) : Bel m (.c v) := .c v
@[simp] theorem bel_junk (m : Nat) : Bel m .junk := .junk
@[simp] theorem bel_nl (m : Nat) : Bel m .nl := .nl
@[simp] theorem bel_agg (m : Nat) (cs : List AV) : Bel m (.agg cs) ↔ ∀ a ∈ cs, Bel m a := ⟨fun h => by cases h; assumption, .agg cs⟩
@[simp] theorem bel_tup (m : Nat) (cs : List AV) : Bel m (.tup cs) ↔ ∀ a ∈ cs, Bel m a := ⟨fun h => by cases h; assumption, .tup cs⟩
@[simp] theorem bel_ps (m : Nat) (cs : List AV) : Bel m (.ps cs) ↔ ∀ a ∈ cs, Bel m a := ⟨fun h => by cases h; assumption, .ps cs⟩
@[simp] theorem bel_fs (m : Nat) (l : List UInt8) : Bel m (.fs l) := .fs l
@[simp] theorem bel_pp (m : Nat) (cs : List AV) : Bel m (.pp cs) ↔ ∀ a ∈ cs, Bel m a := ⟨fun h => by cases h; assumption, .pp cs⟩
@[simp] theorem bel_rc (m i g off len cap : Nat) : Bel m (.rc i g off len cap) ↔ i < m := ⟨fun h => by cases h; assumption, .rc i g off len cap⟩
@[simp] theorem bel_lg (m i : Nat) (es : List AV) : Bel m (.lg i es) ↔ i < m ∧ ∀ a ∈ es, Bel m a := ⟨fun h => by cases h; exact ⟨by assumption, by assumption⟩, fun h => .lg i es h.1 h.2⟩
@[simp] theorem bel_rs (m i g off len : Nat) : Bel m (.rs i g off len) ↔ i < m := ⟨fun h => by cases h; assumption, .rs i g off len⟩
@[simp] theorem bel_rp (m i g k off : Nat) : Bel m (.rp i g k off) ↔ i < m := ⟨fun h => by cases h; assumption, .rp i g k off⟩
@[simp] theorem bel_mp (m i : Nat) : Bel m (.mp i) ↔ i < m := ⟨fun h => by cases h; assumption, .mp i⟩
@[simp] theorem bel_fn (m : Nat) (f : Fn) (xs ys : List AV) : Bel m (.fn f xs ys) ↔ (∀ a ∈ xs, Bel m a) ∧ ∀ a ∈ ys, Bel m a := ⟨fun h => by cases h; exact ⟨by assumption, by assumption⟩, fun h => .fn f xs ys h.1 h.2⟩
@[simp] theorem bel_ifc (m : Nat) (t : TypeId) (a : AV) : Bel m (.ifc t a) ↔ Bel m a := ⟨fun h => by cases h; assumption, .ifc t a⟩
@[simp] theorem bel_byteV (m : Nat) (b : UInt8) : Bel m (byteV b) := .c _

/-- Only these variables, and nothing else. -/
def fr : List (Nat × AV) → Nat → AV
  | [], _ => .junk
  | p :: l, t => if t = p.1 then p.2 else fr l t
theorem fr_cases (l : List (Nat × AV)) (t : Nat) : fr l t = .junk ∨ ∃ p ∈ l, p.1 = t ∧ fr l t = p.2 := by
  induction l with
  | nil => exact .inl rfl
  | cons p l ih =>
    unfold fr
    split
    · rename_i h; exact .inr ⟨p, by simp, h.symm, rfl⟩
    · rcases ih with h | ⟨q, h1, h2, h3⟩
      · exact .inl h
      · exact .inr ⟨q, by simp [h1], h2, h3⟩

theorem SR.of_eq {σ σ2 : Store} {a b : AV} (h : a = b) : SR σ σ2 a b := h ▸ .refl a

/-- Nothing forgotten in the store; only some variables kept. -/
theorem Weak.keep {n N : Nat} {f : Nat → AV} {σ : Store} (l : List (Nat × AV)) (hn : n ≤ σ.next) (hl : ∀ p ∈ l, p.1 < N ∧ f p.1 = p.2) : Weak n N f σ (fr l) σ := by
  refine ⟨⟨hn, Nat.le_refl _, fun _ _ h => h, .inl rfl⟩, fun t ht => ⟨?_, .inl rfl⟩, fun t ht => ?_⟩
  · rcases fr_cases l t with h | ⟨p, h1, h2, h3⟩
    · rw [h]; exact .junk _
    · rw [h3, ← h2]; exact .of_eq (hl p h1).2
  · rcases fr_cases l t with h | ⟨p, h1, h2, h3⟩
    · exact h
    · have := (hl p h1).1; omega

/-- The same with objects forgotten and others of these variables written down otherwise. -/
theorem Weak.some {n N : Nat} {f : Nat → AV} {σ σ2 : Store} (l : List (Nat × AV)) (hf : Forget n σ σ2) (hl : ∀ p ∈ l, p.1 < N ∧ SR σ σ2 (f p.1) p.2 ∧ Belf σ σ2 p.2) : Weak n N f σ (fr l) σ2 := by
  refine ⟨hf, fun t ht => ?_, fun t ht => ?_⟩
  · rcases fr_cases l t with h | ⟨p, h1, h2, h3⟩
    · rw [h]; exact ⟨.junk _, .inr .junk⟩
    · rw [h3, ← h2]; exact (hl p h1).2
  · rcases fr_cases l t with h | ⟨p, h1, h2, h3⟩
    · exact h
    · have := (hl p h1).1; omega

/-- Nothing is forgotten. -/
theorem Fin.same {n : Nat} {σ : Store} {a : AV} {Q : AV → Store → Prop} (hn : n ≤ σ.next) (h : Q a σ) : Fin n σ a Q :=
  ⟨a, σ, ⟨hn, Nat.le_refl _, fun _ _ h => h, .inl rfl⟩, .refl a, .inl rfl, h⟩

/-- The store as it was when the call began; a result that names none of the call's own objects. -/
theorem Fin.back {σ0 σ : Store} {a a' : AV} {Q : AV → Store → Prop} (hb : StoreBel σ0) (hle : σ0.next ≤ σ.next) (hsub : ∀ i o, σ0.get i = some o → σ.get i = some o) (hs : SR σ σ0 a a') (ha : Bel σ0.next a') (h : Q a' σ0) : Fin σ0.next σ a Q :=
  ⟨a', σ0, ⟨Nat.le_refl _, hle, hsub, .inr hb⟩, hs, .inr ha, h⟩
end Go.AW
namespace Go.AW
open Go
theorem ACalls.enter {E : Env} {k : FuncId} {fn : Func} {c : Code} {args : List AV} {σ : Store} {Q : AV → Store → Prop} {N : Nat} {rs : Array ResultVar} (hf : E.P.funcs[k]? = some fn) (hb : fn.body = some c) (hn : fn.ntmps = N) (hrs : fn.results = rs)
    (hN : args.length ≤ N) (h : StoreBel σ → AW E σ.next N c (argF args) σ (RetPost E σ.next rs.toList Q)) : ACalls E k args σ Q := by
  subst hn; subst hrs
  exact ACalls.of_body hf hb hN h
end Go.AW

namespace Go.AW
open Go
@[simp] theorem upd_apply (f : Nat → AV) (t : Nat) (v : AV) (s : Nat) : upd f t v s = if s = t then v else f s := rfl
attribute [simp] aGuard aeval AV.ofV AV.ofV1 argF aBin binS aUn aNil aLoad aLoadC aStore AV.put aBox aAlloc aFieldAddr aIndexAddr aField aIndex aBuild aFill aBuildSlice aElems aConv aSlice ixOr aMakeSlice aLen aSLen aFirst aOwn aCopy aClear aCap aSlice3 aAppend2 aAppendP aAppendC aAppendM AThen ABlock TK.agg AV.cells AV.ok RetPost aRes pack

section
variable {E : Env} {n N : Nat} {f : Nat → AV} {σ : Store} {Q : AExit → (Nat → AV) → Store → Prop}
/-- A region ahead of other code. -/
theorem AW.step (ow : List Nat) {id : Nat} {l : List Oper} {d : Code} (h : ∀ K : (Nat → AV) → Store → Prop, (∀ f σ, AW E n N d f σ Q → K f σ) → aops E ow N l.toArray l f σ K) : AW E n N (.seq (.region id l.toArray false) d) f σ Q :=
  AW.seq_k fun K hK => AW.region (ow := ow) (h K hK)
theorem AW.seq_block {i : Nat} {c d : Code} (h : ∀ K : (Nat → AV) → Store → Prop, (∀ f σ, AW E n N d f σ Q → K f σ) → AW E n N c f σ (ABlock i (AThen K Q))) : AW E n N (.seq (.block i c) d) f σ Q :=
  AW.seq_k fun K hK => AW.block (h K hK)
theorem AW.seq_cond {o : Operand} {c d r : Code} {b : Bool} (hb : aeval E.G f o = .c (.bool b)) (ht : ∀ K : (Nat → AV) → Store → Prop, (∀ f σ, AW E n N r f σ Q → K f σ) → b = true → AW E n N c f σ (AThen K Q))
    (hf : ∀ K : (Nat → AV) → Store → Prop, (∀ f σ, AW E n N r f σ Q → K f σ) → b = false → AW E n N d f σ (AThen K Q)) : AW E n N (.seq (.cond o c d) r) f σ Q :=
  AW.seq_k fun K hK => AW.cond hb (ht K hK) (hf K hK)
end
end Go.AW

namespace Go.AW
open Go
@[simp] theorem fr_nil' (t : Nat) : fr [] t = .junk := rfl
@[simp] theorem fr_cons' (p : Nat × AV) (l : List (Nat × AV)) (t : Nat) : fr (p :: l) t = if t = p.1 then p.2 else fr l t := rfl
@[simp] theorem tdiv_nat (m b : Nat) : (m : Int).tdiv (b : Int) = ((m / b : Nat) : Int) := rfl
@[simp] theorem tmod_nat (m b : Nat) : (m : Int).tmod (b : Int) = ((m % b : Nat) : Int) := rfl
theorem wrap64_id {x : Int} (h1 : -9223372036854775808 ≤ x) (h2 : x ≤ 9223372036854775807) : IntKind.i64.wrap x = x := by rw [IntKind.wrap_i64]; omega
theorem wrap64_nat {x : Nat} (h : x ≤ 9223372036854775807) : IntKind.i64.wrap (x : Int) = x := wrap64_id (by omega) (by omega)
section
variable {E : Env} {n N : Nat} {f : Nat → AV} {σ : Store} {Q : AExit → (Nat → AV) → Store → Prop}
/-- The variables that a loop's head knows. -/
def Knows (N : Nat) (f : Nat → AV) (l : List (Nat × AV)) : Prop := ∀ p ∈ l, p.1 < N ∧ f p.1 = p.2
/-- A loop that leaves the store alone, or changes it in a way that a parameter tells. -/
theorem AW.loopS {c : Code} {ι : Type} (L : ι → List (Nat × AV)) (S : ι → Store) (P : ι → Prop) (μ : ι → Nat) (x0 : ι) (hS : ∀ x, P x → n ≤ (S x).next) (hP : P x0) (hσ : σ = S x0) (hf : Knows N f (L x0))
    (round : ∀ x, P x → AW E n N c (fr (L x)) (S x) (AThen (fun f' σ' => ∃ x', P x' ∧ σ' = S x' ∧ Knows N f' (L x') ∧ μ x' < μ x) Q)) : AW E n N (.loop c) f σ Q := by
  subst hσ
  refine AW.loop (fun x f s => f = fr (L x) ∧ s = S x ∧ P x) μ x0 (Weak.keep (L x0) (hS x0 hP) hf) ⟨rfl, rfl, hP⟩ ?_
  rintro x _ _ ⟨rfl, rfl, hx⟩
  refine AW.mono (round x hx) ?_
  intro e f' σ' h
  cases e <;> try exact h
  obtain ⟨x', h1, rfl, h3, h4⟩ := h
  exact ⟨x', _, _, Weak.keep (L x') (hS x' h1) h3, ⟨rfl, rfl, h1⟩, h4⟩
/-- The general form: at each round's end objects may be forgotten, values written down otherwise. -/
def KnowsW (n N : Nat) (f : Nat → AV) (σ : Store) (l : List (Nat × AV)) (σ2 : Store) : Prop := Forget n σ σ2 ∧ ∀ p ∈ l, p.1 < N ∧ SR σ σ2 (f p.1) p.2 ∧ Belf σ σ2 p.2
theorem AW.loopW {c : Code} {ι : Type} (L : ι → List (Nat × AV)) (S : ι → Store) (P : ι → Prop) (μ : ι → Nat) (x0 : ι) (hP : P x0) (hf : KnowsW n N f σ (L x0) (S x0))
    (round : ∀ x, P x → AW E n N c (fr (L x)) (S x) (AThen (fun f' σ' => ∃ x', P x' ∧ KnowsW n N f' σ' (L x') (S x') ∧ μ x' < μ x) Q)) : AW E n N (.loop c) f σ Q := by
  refine AW.loop (fun x f s => f = fr (L x) ∧ s = S x ∧ P x) μ x0 (Weak.some (L x0) hf.1 hf.2) ⟨rfl, rfl, hP⟩ ?_
  rintro x _ _ ⟨rfl, rfl, hx⟩
  refine AW.mono (round x hx) ?_
  intro e f' σ' h
  cases e <;> try exact h
  obtain ⟨x', h1, h3, h4⟩ := h
  exact ⟨x', _, _, Weak.some (L x') h3.1 h3.2, ⟨rfl, rfl, h1⟩, h4⟩
/-- Forgetting all but some variables ahead of a piece of code. -/
theorem AW.only {c : Code} (l : List (Nat × AV)) (hn : n ≤ σ.next) (hf : Knows N f l) (h : AW E n N c (fr l) σ Q) : AW E n N c f σ Q := AW.weaken _ _ (Weak.keep l hn hf) h
end
end Go.AW
