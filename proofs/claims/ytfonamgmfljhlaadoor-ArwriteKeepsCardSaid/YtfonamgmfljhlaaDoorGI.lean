/- Merged texts, in order: The contract of a function out of its text; small words for proofs about abstract values. No condition. | Regions that draw their order: where every operation leaves the store alone, one walk in the order of the text serves every order. No condition. | How the arguments of a call read as abstract values, how a whole law's answer closes its row. No condition. -/
import Derived.Test.YtfonamgmfljhlaaDoorGB
import Derived.Still
import Derived.Carry
import Derived.OpenShut
import Derived.DataReads
section
set_option linter.unusedVariables false
set_option linter.unusedSimpArgs false
set_option linter.unnecessarySimpa false
namespace Go.AW
open Go

theorem VR.belongs {Γ : Ctx} {w : World} {a : AV} {v : Value} (h : VR Γ w a v) : Bel Γ.next a := by
  induction h with
  | c v h => exact .c v
  | junk v => exact .junk
  | nl a => exact .nl
  | agg cs xs hs h1 _ ih =>
    refine .agg cs fun a ha => ?_
    obtain ⟨j, hj, rfl⟩ := List.getElem_of_mem ha
    exact ih j _ (xs[j]'(by omega)) (List.getElem?_eq_getElem hj) (Array.getElem?_eq_getElem (by omega))
  | tup cs xs hs _ ih =>
    refine .tup cs fun a ha => ?_
    obtain ⟨j, hj, rfl⟩ := List.getElem_of_mem ha
    exact ih j _ (xs[j]'(by omega)) (List.getElem?_eq_getElem hj) (Array.getElem?_eq_getElem (by omega))
  | ps es a cap b o us hc ha hw h1 _ ih =>
    refine .ps es fun e he => ?_
    obtain ⟨k, hk, rfl⟩ := List.getElem_of_mem he
    have hk' := List.getElem?_eq_getElem hk
    generalize es[k] = e at hk'
    cases e with
    | agg cs =>
      refine .agg cs fun x hx => ?_
      obtain ⟨j, hj, rfl⟩ := List.getElem_of_mem hx
      exact ih k _ j _ hk' (List.getElem?_eq_getElem (l := cs) hj)
    | _ => exact ih k _ 0 _ hk' rfl
  | fs l b cap hb hc hh => exact .fs l
  | pp cs b o us hb hw h1 _ ih =>
    refine .pp cs fun x hx => ?_
    obtain ⟨j, hj, rfl⟩ := List.getElem_of_mem hx
    exact ih j _ (List.getElem?_eq_getElem hj)
  | rs i g off len a cap hi hl h => exact .rs i g off len hi
  | rc i g off len cap a hi hl h => exact .rc i g off len cap hi
  | lg i es v _ _ _ ih1 ih2 =>
    cases ih1 with
    | ps _ h1 => cases ih2 with | rs _ _ _ _ h2 => exact .lg i es h2 h1
  | rp i g k off a hi h => exact .rp i g k off hi
  | mp i r hi h => exact .mp i hi
  | fn f first cap xs ys hx hy _ _ ih ih' =>
    refine .fn f first cap (fun a ha => ?_) (fun a ha => ?_)
    · obtain ⟨j, hj, rfl⟩ := List.getElem_of_mem ha
      exact ih j _ (xs[j]'(by omega)) (List.getElem?_eq_getElem hj) (Array.getElem?_eq_getElem (by omega))
    · obtain ⟨j, hj, rfl⟩ := List.getElem_of_mem ha
      exact ih' j _ (ys[j]'(by omega)) (List.getElem?_eq_getElem hj) (Array.getElem?_eq_getElem (by omega))
  | ifc t a v _ ih => exact .ifc t a ih

theorem R.storeBel {E : Env} {Γ : Ctx} {σ : Store} {w : World} (hr : R E Γ σ w) : StoreBel σ := by
  intro i o ho
  obtain ⟨l, hl, hob, hlt⟩ := hr.loc ho
  refine ⟨hlt, ?_⟩
  rw [← hr.next]
  cases o with
  | log T m => trivial
  | lp b L vs =>
    obtain ⟨h0, q1, q2, q3, q4⟩ := hob
    intro a ha
    obtain ⟨j, hj, rfl⟩ := List.getElem_of_mem ha
    exact (q4 j _ (L.tmps[j]'(by omega)) (List.getElem?_eq_getElem hj) (Array.getElem?_eq_getElem (by omega))).belongs
  | it o => trivial
  | mi m since seen last =>
    obtain ⟨h0, b, bm, q1, q2, q3⟩ := hob
    have := q3.belongs
    cases this
    assumption
  | arr T g es =>
    simp only [ObjRel] at hob
    obtain ⟨h1, h2, h3, h4, h5, h6⟩ := hob
    intro e he x hx
    obtain ⟨k, hk, rfl⟩ := List.getElem_of_mem he
    obtain ⟨j, hj, rfl⟩ := List.getElem_of_mem hx
    cases hb : l.blk with
    | none => simp only [hb] at h6; rw [h6.1] at hk; simp at hk
    | some b =>
      simp only [hb] at h6
      obtain ⟨xs, fr, q1, q2, q3, q4⟩ := h6
      obtain ⟨u, _, _, hv⟩ := q4 k _ j _ (List.getElem?_eq_getElem hk) (List.getElem?_eq_getElem hj)
      exact hv.belongs
  | map ents born clock =>
    obtain ⟨h0, b, es, q1, q2, q3, q4, q5⟩ := hob
    intro en hen
    obtain ⟨k, hk, rfl⟩ := List.getElem_of_mem hen
    exact (q4 k _ _ (Array.getElem?_eq_getElem (by omega)) (List.getElem?_eq_getElem hk)).2.belongs

/-! ### Results -/
def aRes (E : Env) : List ResultVar → (Nat → AV) → Store → (List AV → Prop) → Prop
  | [], _, _, K => K []
  | .tmp t :: rs, f, σ, K => aRes E rs f σ fun l => K (f t :: l)
  | .cell a t :: rs, f, σ, K => aLoad E t (f a) σ fun v => aRes E rs f σ fun l => K (v :: l)

def pack (l : List AV) : AV :=
  match l with
  | [a] => a
  | l => .tup l

/-- What a function hands back, what the store then holds: perhaps with objects forgotten. -/
def Fin (n : Nat) (σ : Store) (a : AV) (Q : AV → Store → Prop) : Prop := ∃ a' σ2, Forget n σ σ2 ∧ SR σ σ2 a a' ∧ Belf σ σ2 a' ∧ Q a' σ2

def RetPost (E : Env) (n : Nat) (rs : List ResultVar) (Q : AV → Store → Prop) : AExit → (Nat → AV) → Store → Prop
  | .normal, f, σ => aRes E rs f σ fun l => Fin n σ (pack l) Q
  | .ret, f, σ => aRes E rs f σ fun l => Fin n σ (pack l) Q
  | _, _, _ => False

def argF (args : List AV) : Nat → AV := fun t => args.getD t .junk

theorem aLoadV_ok {E : Env} {Γ : Ctx} {σ : Store} {w : World} {t : TypeId} {x : AV} {xv : Value} {K : AV → Prop} (hr : R E Γ σ w) (hx : VR Γ w x xv) (h : aLoad E t x σ K) :
    ∃ a v va, xv = .pointer (some a) ∧ (loadVar t a).run E.P w = .ok v w ∧ VR Γ w va v ∧ K va := by
  unfold aLoad at h
  split at h
  · obtain ⟨b, o, rfl, h1, h2, h3⟩ := hx.pp_cells
    obtain ⟨v, a, r1, r2, r3⟩ := aLoadC_ok h3 h
    exact ⟨_, v, a, rfl, r1, r2, r3⟩
  · split at h
    · rename_i T g' es hi
      obtain ⟨rfl, h⟩ := h
      split at h
      · rename_i e hk
        obtain ⟨l, b, _, _, _, rfl, hc⟩ := hr.rp_cells hx hi hk
        obtain ⟨v, a, r1, r2, r3⟩ := aLoadC_ok hc h
        exact ⟨_, v, a, rfl, r1, r2, r3⟩
      · exact h.elim
    · exact h.elim
  · exact h.elim

/-- One result. -/
def resOne (tmps : Array Value) : ResultVar → Sem Value
  | .tmp t => pure (tmps.getD t Go.undef)
  | .cell a t => do loadVar t (← asAddr (tmps.getD a Go.undef))

theorem aRes_ok {E : Env} {N : Nat} {Γ : Ctx} {σ : Store} {w : World} {f : Nat → AV} {tmps : Array Value} (hr : R E Γ σ w) (ht : TR N Γ w f tmps) : ∀ (rs : List ResultVar) (K : List AV → Prop), aRes E rs f σ K →
    ∃ (vs : List Value) (l : List AV), (rs.mapM (resOne tmps)).run E.P w = .ok vs w ∧ VRs Γ w l vs ∧ K l
  | [], K, h => ⟨[], [], rfl, ⟨rfl, by intro j a v h; simp at h⟩, h⟩
  | .tmp t :: rs, K, h => by
    obtain ⟨vs, l, h1, h2, h3⟩ := aRes_ok hr ht rs _ h
    have hv : VR Γ w (f t) (tmps.getD t Go.undef) := by
      by_cases htn : t < N
      · exact ht.rel t htn
      · rw [ht.far t (Nat.le_of_not_lt htn)]; exact .junk _
    refine ⟨tmps.getD t Go.undef :: vs, f t :: l, ?_, ⟨by simp [h2.1], ?_⟩, h3⟩
    · rw [List.mapM_cons]; simp only [resOne, Sem.run_bind, Sem.run_pure, Result.andThen_ok, h1]
    · intro j a v ha hb
      cases j with
      | zero => obtain rfl := Option.some.inj ha; obtain rfl := Option.some.inj hb; exact hv
      | succ j => exact h2.2 j a v (by simpa using ha) (by simpa using hb)
  | .cell c t :: rs, K, h => by
    have hv : VR Γ w (f c) (tmps.getD c Go.undef) := by
      by_cases htn : c < N
      · exact ht.rel c htn
      · rw [ht.far c (Nat.le_of_not_lt htn)]; exact .junk _
    obtain ⟨ad, v, va, e1, e2, e3, h⟩ := aLoadV_ok hr hv h
    obtain ⟨vs, l, h1, h2, h3⟩ := aRes_ok hr ht rs _ h
    refine ⟨v :: vs, va :: l, ?_, ⟨by simp [h2.1], ?_⟩, h3⟩
    · rw [List.mapM_cons]; simp only [resOne, Sem.run_bind, Sem.run_pure, Result.andThen_ok, e1, asAddr, e2, h1]
    · intro j a v ha hb
      cases j with
      | zero => obtain rfl := Option.some.inj ha; obtain rfl := Option.some.inj hb; exact e3
      | succ j => exact h2.2 j a v (by simpa using ha) (by simpa using hb)

theorem results_ok {E : Env} {N : Nat} {Γ : Ctx} {σ : Store} {w : World} {f : Nat → AV} {tmps : Array Value} {fn : Func} {K : AV → Prop} (hr : R E Γ σ w) (ht : TR N Γ w f tmps) (h : aRes E fn.results.toList f σ fun l => K (pack l)) :
    ∃ v a, (results fn tmps).run E.P w = .ok v w ∧ VR Γ w a v ∧ K a := by
  obtain ⟨vs, l, h1, h2, h3⟩ := aRes_ok hr ht _ _ h
  refine ⟨if hh : vs.toArray.size = 1 then vs.toArray[0] else .tuple vs.toArray, pack l, ?_, ?_, h3⟩
  · have he : results fn tmps = (do
        let vs ← fn.results.mapM (resOne tmps)
        pure (if hh : vs.size = 1 then vs[0] else .tuple vs)) := by
      unfold results
      first | rfl | (congr 1; done) | (congr 1; congr 1; done) | (congr 1; congr 1; funext x; cases x <;> rfl)
    rw [he, Array.mapM_eq_mapM_toList]
    simp only [Sem.run_bind, Sem.run_map, h1, Result.andThen_ok, Sem.run_pure]
  · obtain ⟨k1, k2⟩ := h2
    match l, vs, k1 with
    | [a], [v], _ => exact k2 0 a v rfl rfl
    | [], [], _ => exact .tup [] #[] rfl (by intro j a v h; simp at h)
    | a :: b :: l, u :: v :: vs, k1 =>
      have : ¬ ((u :: v :: vs).toArray.size = 1) := by simp
      rw [dif_neg this]
      exact .tup _ _ (by simpa using k1) fun j a x ha hx => k2 j a x ha (by simpa using hx)

/-! ### Blocks for the deferred calls of rounds are shut at a function's end -/
/-- Only such blocks have changed. -/
structure Quiet (w w' : World) : Prop where
  os : w'.os = w.os
  tape : w'.tape = w.tape
  output : w'.output = w.output
  size : w'.heap.size = w.heap.size
  same : ∀ b : Nat, (∃ x, w.heap[b]? = some (Obj.deferred x)) ∨ w'.heap[b]? = w.heap[b]?
theorem Quiet.refl (w : World) : Quiet w w := ⟨rfl, rfl, rfl, rfl, fun _ => .inr rfl⟩
theorem Quiet.obj {w w' : World} (h : Quiet w w') {b : Nat} {o : Obj} (ho : w.heap[b]? = some o) (hn : ∀ x, o ≠ .deferred x) : w'.heap[b]? = some o := by
  rcases h.same b with ⟨x, hx⟩ | e
  · rw [ho] at hx; cases hx; exact absurd rfl (hn x)
  · rw [e]; exact ho
theorem Quiet.cell {w w' : World} (h : Quiet w w') {a : Addr} {v : Value} (hc : w.cell? a = some v) : w'.cell? a = some v := by
  rcases h.same a.block with ⟨x, hx⟩ | e
  · unfold World.cell? at hc; rw [hx] at hc; cases hc
  · rw [World.cell?_of_block (w := w) e]; exact hc
theorem VR.quiet {Γ : Ctx} {w w' : World} (hq : Quiet w w') {a : AV} {v : Value} (h : VR Γ w a v) : VR Γ w' a v := by
  induction h with
  | c v h => exact .c v h
  | junk v => exact .junk v
  | nl a => exact .nl a
  | agg cs xs hs h1 _ ih => exact .agg cs xs hs h1 ih
  | tup cs xs hs _ ih => exact .tup cs xs hs ih
  | ps es a cap b o us hc ha hw h1 _ ih => exact .ps es a cap b o us hc (fun hne => ⟨(ha hne).1, by rw [hq.size]; exact (ha hne).2⟩) (fun k e j x hk hj => ⟨hq.cell (hw k e j x hk hj).1, (hw k e j x hk hj).2⟩) h1 ih
  | fs l b cap hb hc hh =>
    obtain ⟨xs, t, fr, h1, h2⟩ := hh
    exact .fs l b cap ⟨hb.1, by rw [hq.size]; exact hb.2.1, hb.2.2⟩ hc ⟨xs, t, fr, hq.obj h1 (by simp), h2⟩
  | pp cs b o us hb hw h1 _ ih => exact .pp cs b o us (by rw [hq.size]; exact hb) (fun j x hj => ⟨hq.cell (hw j x hj).1, (hw j x hj).2⟩) h1 ih
  | rs i g off len a cap hi hl h => exact .rs i g off len a cap hi hl h
  | rc i g off len cap a hi hl h => exact .rc i g off len cap a hi hl h
  | lg i es v h1 h2 h3 ih1 ih2 => exact .lg i es v ih1 ih2 h3
  | rp i g k off a hi h => exact .rp i g k off a hi h
  | mp i r hi h => exact .mp i r hi h
  | fn f first cap xs ys hx hy _ _ ih ih' => exact .fn f first cap xs ys hx hy ih ih'
  | ifc t a v _ ih => exact .ifc t a v ih
theorem GR.quiet {Γ : Ctx} {w w' : World} {cs : List AV} {g : Nat} (hq : Quiet w w') (h : GR Γ w cs g) : GR Γ w' cs g := ⟨h.vr.quiet hq, h.own, by obtain ⟨xs, t, fr, h1, h2⟩ := h.blk; exact ⟨xs, t, fr, hq.obj h1 (by simp), h2⟩⟩
theorem R.quiet {E : Env} {Γ : Ctx} {σ : Store} {w w' : World} (hr : R E Γ σ w) (hq : Quiet w w') : R E Γ σ w' := by
  refine ⟨hr.next, hr.dom, hr.bnd, hr.inj, fun i o l ho hl => ?_, fun g cs hg => (hr.glob g cs hg).quiet hq, hr.gbel, by rw [hq.size]; exact hr.base, hr.lims⟩
  have h := hr.objs i o l ho hl
  cases o with
  | arr T g es =>
    simp only [ObjRel] at h ⊢
    obtain ⟨h1, h2, h3, h4, h5, h6⟩ := h
    refine ⟨h1, h2, h3, h4, h5, ?_⟩
    cases hb : l.blk with
    | none => simp only [hb] at h6 ⊢; exact h6
    | some b =>
      simp only [hb] at h6 ⊢
      obtain ⟨xs, fr, q1, q2, q3, q4⟩ := h6
      refine ⟨xs, fr, hq.obj q1 (by simp), q2, q3, fun k e j x hk hj => ?_⟩
      obtain ⟨u, u1, u2, u3⟩ := q4 k e j x hk hj
      exact ⟨u, u1, u2, u3.quiet hq⟩
  | map ents born clock =>
    obtain ⟨h0, b, es, q1, q2, q3, q4, q5⟩ := h
    exact ⟨h0, b, es, q1, hq.obj q2 (by simp), q3, fun k e en hk hen => ⟨(q4 k e en hk hen).1, (q4 k e en hk hen).2.quiet hq⟩, q5⟩
  | log T m =>
    simp only [ObjRel] at h ⊢
    obtain ⟨h1, h2, h3, h4, h5⟩ := h
    refine ⟨h1, h2, h3, h4, ?_⟩
    cases hb : l.blk with
    | none => simp only [hb] at h5 ⊢; exact h5
    | some b =>
      simp only [hb] at h5 ⊢
      obtain ⟨xs, fr, q1, q2⟩ := h5
      exact ⟨xs, fr, hq.obj q1 (by simp), q2⟩
  | lp b L vs =>
    obtain ⟨h0, q1, q2, q3, q4⟩ := h
    exact ⟨h0, q1, hq.obj q2 (by simp), q3, fun t a v h1 h2 => (q4 t a v h1 h2).quiet hq⟩
  | it o =>
    obtain ⟨h0, b, q1, q2, q3⟩ := h
    exact ⟨h0, b, q1, hq.obj q2 (by rintro x rfl; simp [itOk] at q3), q3⟩
  | mi m since seen last =>
    obtain ⟨h0, b, bm, q1, q2, q3⟩ := h
    exact ⟨h0, b, bm, q1, hq.obj q2 (by simp), q3.quiet hq⟩
theorem TR.quiet {N : Nat} {Γ : Ctx} {w w' : World} {f : Nat → AV} {tmps : Array Value} (h : TR N Γ w f tmps) (hq : Quiet w w') : TR N Γ w' f tmps := ⟨h.size, fun t ht => (h.rel t ht).quiet hq, h.far⟩
theorem ExtN.quiet {n : Nat} {Γ Γ' : Ctx} {w w1 w2 : World} (h : ExtN n Γ w Γ' w1) (hq : Quiet w1 w2) (hb : ∀ b : Nat, b < w.heap.size → w2.heap[b]? = w1.heap[b]?) : ExtN n Γ w Γ' w2 :=
  ⟨hq.os.trans h.os, hq.tape.trans h.tape, hq.output.trans h.output, by rw [hq.size]; exact h.size, fun b hlt ho => by rw [hb b hlt]; exact h.sealed b hlt ho,
    fun b k hlt hf => ⟨fun v hv => hq.cell ((h.fixd b k hlt hf).1 v hv), (h.fixd b k hlt hf).2⟩, h.locs, h.le, h.le', h.base⟩
/-- The marks are taken off, one by one. -/
theorem leavesM_marks {P : Program} {fn : Func} {tmps : Array Value} {R : Ending → World → Prop} {u : FrameMode} (hu : u ≠ .run) {hb : Nat} : ∀ (ms : List Nat) (w : World), ms.Nodup → (∀ D ∈ ms, hb ≤ D ∧ w.heap[D]? = some (.deferred (some []))) →
    (∀ w2, Quiet w w2 → (∀ b : Nat, b < hb → w2.heap[b]? = w.heap[b]?) → LeavesIn Fence.wide 0 P fn tmps R [] u w2) → LeavesInM Fence.wide 0 P fn tmps R (ms.map mark) u w
  | [], w, _, _, h => h w (Quiet.refl w) (fun _ _ => rfl)
  | D :: ms, w, hnd, hD, h => by
    obtain ⟨h1, h2⟩ := List.nodup_cons.1 hnd
    obtain ⟨hle, hd⟩ := hD D (by simp)
    have hlt := (Array.getElem?_eq_some_iff.1 hd).1
    refine ⟨hu, .inl ⟨D, w.putObj D (.deferred none), rfl, run_takeDeferred hd, ?_⟩⟩
    refine leavesM_marks hu ms _ h2 (fun x hx => ⟨(hD x (by simp [hx])).1, ?_⟩) fun w2 hq hb2 => ?_
    · rw [World.putObj_heap_other (by rintro rfl; exact h1 hx)]
      exact (hD x (by simp [hx])).2
    · refine h w2 ⟨hq.os, hq.tape, hq.output, by rw [hq.size]; simp, fun b => ?_⟩ fun b hb => ?_
      · by_cases e : b = D
        · subst e; exact .inl ⟨_, hd⟩
        · rcases hq.same b with ⟨x, hx⟩ | e'
          · rw [World.putObj_heap_other e] at hx; exact .inl ⟨x, hx⟩
          · rw [World.putObj_heap_other e] at e'; exact .inr e'
      · rw [hb2 b hb, World.putObj_heap_other (by omega)]
theorem leavesM_of_marks {P : Program} {fn : Func} {tmps : Array Value} {R : Ending → World → Prop} {u : FrameMode} {hb : Nat} {a : Act} {w : World} (hm : Marks w ⟨[], hb, [], false⟩ a) (hu : u ≠ .run)
    (h : ∀ w2, Quiet w w2 → (∀ b : Nat, b < hb → w2.heap[b]? = w.heap[b]?) → LeavesIn Fence.wide 0 P fn tmps R [] u w2) : LeavesInM Fence.wide 0 P fn tmps R a.defers u w := by
  obtain ⟨⟨_, ms, h1, h2, h3⟩, _⟩ := hm
  rw [h1, List.append_nil]
  exact leavesM_marks hu ms w h2 h3 h

theorem ACalls.of_body {E : Env} {k : FuncId} {fn : Func} {c : Code} {args : List AV} {σ : Store} {Q : AV → Store → Prop} (hf : E.P.funcs[k]? = some fn) (hb : fn.body = some c) (hN : args.length ≤ fn.ntmps)
    (h : StoreBel σ → AW E σ.next fn.ntmps c (argF args) σ (RetPost E σ.next fn.results.toList Q)) : ACalls E k args σ Q := by
  intro Γ w vs hr hv
  have hsz : vs.size = args.length := by have := hv.1; simp at this; exact this.symm
  refine (callsIn_wide (n := 0)).1 (callsIn_of_wp_marks hf hb trivial (wpIn_mono (h hr.storeBel none ⟨[], w.heap.size, [], false⟩ Γ w _ ⟨.inl rfl, by simp, by simp⟩ (by rw [hr.next]; exact Nat.le_refl _) hr ?_ (Marks.refl w _)) ?_))
  · refine ⟨by simp; omega, fun t ht => ?_, fun t ht => ?_⟩
    · simp only [argF, Array.getD_eq_getD_getElem?, Array.getElem?_append]
      by_cases h1 : t < vs.size
      · rw [if_pos h1]
        have ha := List.getElem?_eq_getElem (l := args) (i := t) (by omega)
        have hx := Array.getElem?_eq_getElem h1
        rw [hx]
        simp only [List.getD, ha, Option.getD_some]
        exact hv.2 t _ _ ha (by rw [Array.getElem?_toList]; exact hx)
      · have : args[t]? = none := List.getElem?_eq_none_iff.2 (by omega)
        simp only [List.getD, this, Option.getD_none]
        exact .junk _
    · have : args[t]? = none := List.getElem?_eq_none_iff.2 (by omega)
      simp [argF, List.getD, this]
  · have hret : ∀ (Γ' : Ctx) (f' : Nat → AV) (σ' : Store) (a' : Act) (w' : World), ExtN σ.next Γ w Γ' w' → R E Γ' σ' w' → TR fn.ntmps Γ' w' f' a'.tmps → Marks w' ⟨[], w.heap.size, [], false⟩ a' → aRes E fn.results.toList f' σ' (fun l => Fin σ.next σ' (pack l) Q) →
        LeavesInM Fence.wide 0 E.P fn a'.tmps (Ends E Γ w Q) a'.defers .returning w' := by
      intro Γ' f' σ' a' w' hx hr' ht' hm hres
      refine leavesM_of_marks hm (by simp) fun w2 hq hb => ?_
      obtain ⟨v, a, h1, h2, a2, σ2, h3, h4, h5, h6⟩ := results_ok (fn := fn) (K := fun a => Fin σ.next σ' a Q) (hr'.quiet hq) (ht'.quiet hq) hres
      obtain ⟨Γ2, k1, k2, k3⟩ := h3.ctx (hr'.quiet hq)
      have hx := hx.quiet hq hb
      rw [← hr.next] at hx k1
      exact ⟨v, h1, .inl ⟨v, rfl, Γ2, a2, σ2, hx.trans k1, k2, k3 _ _ _ h2 h4 h5, h6⟩⟩
    rintro e a' w' (⟨Γ', f', σ', x, h1, h2, h3, h4, h5, h6⟩ | ⟨v, rfl, ⟨Γ', b, σ', h1, h2, h3, h4⟩, h5⟩)
    · cases x <;> try exact h6.elim
      · cases e <;> try exact h1.elim
        exact hret Γ' f' σ' a' w' h2 h3 h4 h5 h6
      · cases e <;> try exact h1.elim
        exact hret Γ' f' σ' a' w' h2 h3 h4 h5 h6
    · refine leavesM_of_marks h5 (by simp) fun w2 hq hb => ?_
      have hx := h1.quiet hq hb
      rw [← hr.next] at hx
      exact .inr ⟨v, rfl, Γ', b, σ', hx, h2.quiet hq, h3.quiet hq, h4⟩

/-! ### Small words -/
@[simp] theorem bel_c (m : Nat) (v : Value) : Bel m (.c v) := .c v
@[simp] theorem bel_junk (m : Nat) : Bel m .junk := .junk
@[simp] theorem bel_nl (m : Nat) : Bel m .nl := .nl
@[simp] theorem bel_agg (m : Nat) (cs : List AV) : Bel m (.agg cs) ↔ ∀ a ∈ cs, Bel m a := ⟨fun h => by cases h; assumption, .agg cs⟩
@[simp] theorem bel_tup (m : Nat) (cs : List AV) : Bel m (.tup cs) ↔ ∀ a ∈ cs, Bel m a := ⟨fun h => by cases h; assumption, .tup cs⟩
@[simp] theorem bel_ps (m : Nat) (cs : List AV) : Bel m (.ps cs) ↔ ∀ a ∈ cs, Bel m a := ⟨fun h => by cases h; assumption, .ps cs⟩
@[simp] theorem bel_fs (m : Nat) (l : List UInt8) : Bel m (.fs l) := .fs l
@[simp] theorem bel_pp (m : Nat) (cs : List AV) : Bel m (.pp cs) ↔ ∀ a ∈ cs, Bel m a := ⟨fun h => by cases h; assumption, .pp cs⟩
@[simp] theorem bel_rc (m i g off len cap : Nat) : Bel m (.rc i g off len cap) ↔ i < m := ⟨fun h => by cases h; assumption, .rc i g off len cap⟩
@[simp] theorem bel_lg (m i : Nat) (es : List AV) : Bel m (.lg i es) ↔ i < m ∧ ∀ a ∈ es, Bel m a := ⟨fun h => by cases h; exact ⟨by assumption, by assumption⟩, fun h => .lg i es h.1 h.2⟩
@[simp] theorem bel_rs (m i g off len : Nat) : Bel m (.rs i g off len) ↔ i < m := ⟨fun h => by cases h; assumption, .rs i g off len⟩
@[simp] theorem bel_rp (m i g k off : Nat) : Bel m (.rp i g k off) ↔ i < m := ⟨fun h => by cases h; assumption, .rp i g k off⟩
@[simp] theorem bel_mp (m i : Nat) : Bel m (.mp i) ↔ i < m := ⟨fun h => by cases h; assumption, .mp i⟩
@[simp] theorem bel_fn (m : Nat) (f : Fn) (xs ys : List AV) : Bel m (.fn f xs ys) ↔ (∀ a ∈ xs, Bel m a) ∧ ∀ a ∈ ys, Bel m a := ⟨fun h => by cases h; exact ⟨by assumption, by assumption⟩, fun h => .fn f xs ys h.1 h.2⟩
@[simp] theorem bel_ifc (m : Nat) (t : TypeId) (a : AV) : Bel m (.ifc t a) ↔ Bel m a := ⟨fun h => by cases h; assumption, .ifc t a⟩
@[simp] theorem bel_byteV (m : Nat) (b : UInt8) : Bel m (byteV b) := .c _

/-- Only these variables, and nothing else. -/
def fr : List (Nat × AV) → Nat → AV
  | [], _ => .junk
  | p :: l, t => if t = p.1 then p.2 else fr l t
theorem fr_cases (l : List (Nat × AV)) (t : Nat) : fr l t = .junk ∨ ∃ p ∈ l, p.1 = t ∧ fr l t = p.2 := by
  induction l with
  | nil => exact .inl rfl
  | cons p l ih =>
    unfold fr
    split
    · rename_i h; exact .inr ⟨p, by simp, h.symm, rfl⟩
    · rcases ih with h | ⟨q, h1, h2, h3⟩
      · exact .inl h
      · exact .inr ⟨q, by simp [h1], h2, h3⟩

theorem SR.of_eq {σ σ2 : Store} {a b : AV} (h : a = b) : SR σ σ2 a b := h ▸ .refl a

/-- Nothing forgotten in the store; only some variables kept. -/
theorem Weak.keep {n N : Nat} {f : Nat → AV} {σ : Store} (l : List (Nat × AV)) (hn : n ≤ σ.next) (hl : ∀ p ∈ l, p.1 < N ∧ f p.1 = p.2) : Weak n N f σ (fr l) σ := by
  refine ⟨⟨hn, Nat.le_refl _, fun _ _ h => h, .inl rfl⟩, fun t ht => ⟨?_, .inl rfl⟩, fun t ht => ?_⟩
  · rcases fr_cases l t with h | ⟨p, h1, h2, h3⟩
    · rw [h]; exact .junk _
    · rw [h3, ← h2]; exact .of_eq (hl p h1).2
  · rcases fr_cases l t with h | ⟨p, h1, h2, h3⟩
    · exact h
    · have := (hl p h1).1; omega

/-- The same with objects forgotten and others of these variables written down otherwise. -/
theorem Weak.some {n N : Nat} {f : Nat → AV} {σ σ2 : Store} (l : List (Nat × AV)) (hf : Forget n σ σ2) (hl : ∀ p ∈ l, p.1 < N ∧ SR σ σ2 (f p.1) p.2 ∧ Belf σ σ2 p.2) : Weak n N f σ (fr l) σ2 := by
  refine ⟨hf, fun t ht => ?_, fun t ht => ?_⟩
  · rcases fr_cases l t with h | ⟨p, h1, h2, h3⟩
    · rw [h]; exact ⟨.junk _, .inr .junk⟩
    · rw [h3, ← h2]; exact (hl p h1).2
  · rcases fr_cases l t with h | ⟨p, h1, h2, h3⟩
    · exact h
    · have := (hl p h1).1; omega

/-- Nothing is forgotten. -/
theorem Fin.same {n : Nat} {σ : Store} {a : AV} {Q : AV → Store → Prop} (hn : n ≤ σ.next) (h : Q a σ) : Fin n σ a Q :=
  ⟨a, σ, ⟨hn, Nat.le_refl _, fun _ _ h => h, .inl rfl⟩, .refl a, .inl rfl, h⟩

/-- The store as it was when the call began; a result that names none of the call's own objects. -/
theorem Fin.back {σ0 σ : Store} {a a' : AV} {Q : AV → Store → Prop} (hb : StoreBel σ0) (hle : σ0.next ≤ σ.next) (hsub : ∀ i o, σ0.get i = some o → σ.get i = some o) (hs : SR σ σ0 a a') (ha : Bel σ0.next a') (h : Q a' σ0) : Fin σ0.next σ a Q :=
  ⟨a', σ0, ⟨Nat.le_refl _, hle, hsub, .inr hb⟩, hs, .inr ha, h⟩
end Go.AW
namespace Go.AW
open Go
theorem ACalls.enter {E : Env} {k : FuncId} {fn : Func} {c : Code} {args : List AV} {σ : Store} {Q : AV → Store → Prop} {N : Nat} {rs : Array ResultVar} (hf : E.P.funcs[k]? = some fn) (hb : fn.body = some c) (hn : fn.ntmps = N) (hrs : fn.results = rs)
    (hN : args.length ≤ N) (h : StoreBel σ → AW E σ.next N c (argF args) σ (RetPost E σ.next rs.toList Q)) : ACalls E k args σ Q := by
  subst hn; subst hrs
  exact ACalls.of_body hf hb hN h
end Go.AW

namespace Go.AW
open Go
@[simp] theorem upd_apply (f : Nat → AV) (t : Nat) (v : AV) (s : Nat) : upd f t v s = if s = t then v else f s := rfl
attribute [simp] aGuard aeval AV.ofV AV.ofV1 argF aBin binS aUn aNil aLoad aLoadC aStore AV.put aBox aAlloc aFieldAddr aIndexAddr aField aIndex aBuild aFill aBuildSlice aElems aConv aSlice ixOr aMakeSlice aLen aSLen aFirst aOwn aCopy aClear aCap aSlice3 aAppend2 aAppendP aAppendC aAppendM AThen ABlock TK.agg AV.cells AV.ok RetPost aRes pack

section
variable {E : Env} {n N : Nat} {f : Nat → AV} {σ : Store} {Q : AExit → (Nat → AV) → Store → Prop}
/-- A region ahead of other code. -/
theorem AW.step (ow : List Nat) {id : Nat} {l : List Oper} {d : Code} (h : ∀ K : (Nat → AV) → Store → Prop, (∀ f σ, AW E n N d f σ Q → K f σ) → aops E ow N l.toArray l f σ K) : AW E n N (.seq (.region id l.toArray false) d) f σ Q :=
  AW.seq_k fun K hK => AW.region (ow := ow) (h K hK)
theorem AW.seq_block {i : Nat} {c d : Code} (h : ∀ K : (Nat → AV) → Store → Prop, (∀ f σ, AW E n N d f σ Q → K f σ) → AW E n N c f σ (ABlock i (AThen K Q))) : AW E n N (.seq (.block i c) d) f σ Q :=
  AW.seq_k fun K hK => AW.block (h K hK)
theorem AW.seq_cond {o : Operand} {c d r : Code} {b : Bool} (hb : aeval E.G f o = .c (.bool b)) (ht : ∀ K : (Nat → AV) → Store → Prop, (∀ f σ, AW E n N r f σ Q → K f σ) → b = true → AW E n N c f σ (AThen K Q))
    (hf : ∀ K : (Nat → AV) → Store → Prop, (∀ f σ, AW E n N r f σ Q → K f σ) → b = false → AW E n N d f σ (AThen K Q)) : AW E n N (.seq (.cond o c d) r) f σ Q :=
  AW.seq_k fun K hK => AW.cond hb (ht K hK) (hf K hK)
end
end Go.AW

namespace Go.AW
open Go
@[simp] theorem fr_nil' (t : Nat) : fr [] t = .junk := rfl
@[simp] theorem fr_cons' (p : Nat × AV) (l : List (Nat × AV)) (t : Nat) : fr (p :: l) t = if t = p.1 then p.2 else fr l t := rfl
@[simp] theorem tdiv_nat (m b : Nat) : (m : Int).tdiv (b : Int) = ((m / b : Nat) : Int) := rfl
@[simp] theorem tmod_nat (m b : Nat) : (m : Int).tmod (b : Int) = ((m % b : Nat) : Int) := rfl
theorem wrap64_id {x : Int} (h1 : -9223372036854775808 ≤ x) (h2 : x ≤ 9223372036854775807) : IntKind.i64.wrap x = x := by rw [IntKind.wrap_i64]; omega
theorem wrap64_nat {x : Nat} (h : x ≤ 9223372036854775807) : IntKind.i64.wrap (x : Int) = x := wrap64_id (by omega) (by omega)
section
variable {E : Env} {n N : Nat} {f : Nat → AV} {σ : Store} {Q : AExit → (Nat → AV) → Store → Prop}
/-- The variables that a loop's head knows. -/
def Knows (N : Nat) (f : Nat → AV) (l : List (Nat × AV)) : Prop := ∀ p ∈ l, p.1 < N ∧ f p.1 = p.2
/-- A loop that leaves the store alone, or changes it in a way that a parameter tells. -/
theorem AW.loopS {c : Code} {ι : Type} (L : ι → List (Nat × AV)) (S : ι → Store) (P : ι → Prop) (μ : ι → Nat) (x0 : ι) (hS : ∀ x, P x → n ≤ (S x).next) (hP : P x0) (hσ : σ = S x0) (hf : Knows N f (L x0))
    (round : ∀ x, P x → AW E n N c (fr (L x)) (S x) (AThen (fun f' σ' => ∃ x', P x' ∧ σ' = S x' ∧ Knows N f' (L x') ∧ μ x' < μ x) Q)) : AW E n N (.loop c) f σ Q := by
  subst hσ
  refine AW.loop (fun x f s => f = fr (L x) ∧ s = S x ∧ P x) μ x0 (Weak.keep (L x0) (hS x0 hP) hf) ⟨rfl, rfl, hP⟩ ?_
  rintro x _ _ ⟨rfl, rfl, hx⟩
  refine AW.mono (round x hx) ?_
  intro e f' σ' h
  cases e <;> try exact h
  obtain ⟨x', h1, rfl, h3, h4⟩ := h
  exact ⟨x', _, _, Weak.keep (L x') (hS x' h1) h3, ⟨rfl, rfl, h1⟩, h4⟩
/-- The general form: at each round's end objects may be forgotten, values written down otherwise. -/
def KnowsW (n N : Nat) (f : Nat → AV) (σ : Store) (l : List (Nat × AV)) (σ2 : Store) : Prop := Forget n σ σ2 ∧ ∀ p ∈ l, p.1 < N ∧ SR σ σ2 (f p.1) p.2 ∧ Belf σ σ2 p.2
theorem AW.loopW {c : Code} {ι : Type} (L : ι → List (Nat × AV)) (S : ι → Store) (P : ι → Prop) (μ : ι → Nat) (x0 : ι) (hP : P x0) (hf : KnowsW n N f σ (L x0) (S x0))
    (round : ∀ x, P x → AW E n N c (fr (L x)) (S x) (AThen (fun f' σ' => ∃ x', P x' ∧ KnowsW n N f' σ' (L x') (S x') ∧ μ x' < μ x) Q)) : AW E n N (.loop c) f σ Q := by
  refine AW.loop (fun x f s => f = fr (L x) ∧ s = S x ∧ P x) μ x0 (Weak.some (L x0) hf.1 hf.2) ⟨rfl, rfl, hP⟩ ?_
  rintro x _ _ ⟨rfl, rfl, hx⟩
  refine AW.mono (round x hx) ?_
  intro e f' σ' h
  cases e <;> try exact h
  obtain ⟨x', h1, h3, h4⟩ := h
  exact ⟨x', _, _, Weak.some (L x') h3.1 h3.2, ⟨rfl, rfl, h1⟩, h4⟩
/-- Forgetting all but some variables ahead of a piece of code. -/
theorem AW.only {c : Code} (l : List (Nat × AV)) (hn : n ≤ σ.next) (hf : Knows N f l) (h : AW E n N c (fr l) σ Q) : AW E n N c f σ Q := AW.weaken _ _ (Weak.keep l hn hf) h
end
end Go.AW
end

section
set_option linter.unusedVariables false
set_option linter.unusedSimpArgs false
set_option linter.unnecessarySimpa false
namespace Go.AW
open Go

theorem aCall_congr {E : Env} {ow : List Nat} {own : Nat} {c : Call} {f g : Nat → AV} {σ : Store} {K : AV → Store → Prop} (h : ∀ x ∈ c.operands, aeval E.G f x = aeval E.G g x) : aCall E ow own c f σ K = aCall E ow own c g σ K := by
  have hargs : c.args.toList.map (aeval E.G f) = c.args.toList.map (aeval E.G g) := List.map_congr_left fun x hx => h x (by simp [Call.operands]; right; simpa using hx)
  have harg : ∀ x ∈ c.args.toList, aeval E.G f x = aeval E.G g x := fun x hx => h x (by simp [Call.operands]; right; simpa using hx)
  have hargs' : ∀ k, (c.args.toList.map fun x => argV ow k (aeval E.G f x)) = c.args.toList.map fun x => argV ow k (aeval E.G g x) := fun k => List.map_congr_left fun x hx => by rw [harg x hx]
  unfold aCall
  cases hc : c.callee with
  | value k =>
    have hfz : (c.args.toList.map fun x => frz (aeval E.G f x)) = c.args.toList.map fun x => frz (aeval E.G g x) := List.map_congr_left fun x hx => by rw [harg x hx]
    simp only [hargs, hargs', hfz, h k (by simp [Call.operands, hc])]
  | invoke r m => simp only [hargs', h r (by simp [Call.operands, hc])]
  | builtin b =>
    cases b <;> simp only [hargs]
    case append =>
      split
      · rename_i s x t u ha ht
        rw [harg s (by rw [ha]; simp), harg x (by rw [ha]; simp)]
      · rfl
    case len =>
      split
      · rename_i x t ha ht
        rw [harg x (by rw [ha]; simp)]
      · rfl
    case cap =>
      split
      · rename_i x t ha ht
        rw [harg x (by rw [ha]; simp)]
      · rfl
    case clear =>
      split
      · rename_i x t ha ht
        rw [harg x (by rw [ha]; simp)]
      · rfl
    case copy =>
      split
      · rename_i s x t u ha ht
        rw [harg s (by rw [ha]; simp), harg x (by rw [ha]; simp)]
      · rfl
    case delete =>
      split
      · rename_i s x t u ha ht
        rw [harg s (by rw [ha]; simp), harg x (by rw [ha]; simp)]
      · rfl

theorem opK_congr {E : Env} {ow : List Nat} {o : Oper} {f g : Nat → AV} {σ : Store} {K : AV → Store → Prop} (h : ∀ x ∈ o.op.operands, aeval E.G f x = aeval E.G g x) : opK E ow o f σ K = opK E ow o g σ K := by
  obtain ⟨dst, op, ty, pos, after, guard⟩ := o
  have pairs : ∀ ps : Array (Nat × Operand), (∀ p ∈ ps.toList, aeval E.G f p.2 = aeval E.G g p.2) → (ps.toList.map fun p => (p.1, aeval E.G f p.2)) = (ps.toList.map fun p => (p.1, aeval E.G g p.2)) := fun ps hp =>
    List.map_congr_left fun p hm => by rw [hp p hm]
  have hops : op.operands.toList.map (aeval E.G f) = op.operands.toList.map (aeval E.G g) := List.map_congr_left fun x hx => h x (by simpa using hx)
  cases op <;> simp only [opK] <;> try rw [hops]
  all_goals clear hops
  all_goals simp only [Op.operands] at h
  case build t ps => rw [pairs ps fun p hp => h p.2 (by simp only [List.mem_toArray, List.mem_map]; exact ⟨p, hp, rfl⟩)]
  case buildSlice t n ps => rw [pairs ps fun p hp => h p.2 (by simp only [List.mem_toArray, List.mem_map]; exact ⟨p, hp, rfl⟩)]
  case makeFunc fn first captured =>
    have h1 : first.toList.map (aeval E.G f) = first.toList.map (aeval E.G g) := List.map_congr_left fun x hx => h x (Array.mem_append.2 (.inl (by simpa using hx)))
    have h2 : captured.toList.map (aeval E.G f) = captured.toList.map (aeval E.G g) := List.map_congr_left fun x hx => h x (Array.mem_append.2 (.inr (by simpa using hx)))
    rw [h1, h2]
  case call c => exact aCall_congr h
  case slice t x lo hi mx =>
    have h1 : lo.map (aeval E.G f) = lo.map (aeval E.G g) := by
      cases lo with
      | none => rfl
      | some y => rw [Option.map_some, Option.map_some, h y (by simp)]
    have h2 : hi.map (aeval E.G f) = hi.map (aeval E.G g) := by
      cases hi with
      | none => rfl
      | some y => rw [Option.map_some, Option.map_some, h y (by simp)]
    cases mx with
    | none => simp only [h1, h2, h x (by simp)]
    | some y => simp only [h1, h2, h x (by simp), h y (by simp)]
  case pick c a b => rw [h c (by simp), h a (by simp), h b (by simp)]
  case store t x y => rw [h x (by simp), h y (by simp)]
  case binOp op t x y yt => rw [h x (by simp), h y (by simp)]
  case makeSlice t x y => rw [h x (by simp), h y (by simp)]
  case indexAddr t x y => rw [h x (by simp), h y (by simp)]
  case index t x y => rw [h x (by simp), h y (by simp)]
  case move x => rw [h x (by simp)]
  case assign x => rw [h x (by simp)]
  case box t x => rw [h x (by simp)]
  case load t x => rw [h x (by simp)]
  case nilCheck x => rw [h x (by simp)]
  case unOp op t x => rw [h x (by simp)]
  case convert s d x => rw [h x (by simp)]
  case makeInterface t x => rw [h x (by simp)]
  case fieldAddr t x i => rw [h x (by simp)]
  case field t x i => rw [h x (by simp)]
  case extract x i => rw [h x (by simp)]

section
variable {E : Env} {ow : List Nat} {N : Nat} {ops : Array Oper} {σ : Store} {md : Region.Mode}

/-- Operation i comes up; it leaves the store alone. -/
def qA (E : Env) (ow : List Nat) (N : Nat) (ops : Array Oper) (σ : Store) (i : Nat) (K : (Nat → AV) → Prop) (f : Nat → AV) : Prop :=
  match ops[i]? with
  | none => K f
  | some o => match aGuard ops f o with
    | some g => (g = true → ∃ a, opK E ow o f σ (fun a' σ' => a' = a ∧ σ' = σ) ∧ aput N f o.dst a K) ∧ (g = false → aput N f o.dst (.tup []) K)
    | none => False

def anyA (E : Env) (ow : List Nat) (N : Nat) (md : Region.Mode) (ops : Array Oper) (σ : Store) (Q : (Nat → AV) → Prop) : Nat → Array Bool → (Nat → AV) → Prop
  | 0, listed, f => Region.ready md ops listed = [] ∧ Q f
  | fuel + 1, listed, f => (Region.ready md ops listed = [] → Q f) ∧ ∀ i ∈ Region.ready md ops listed, qA E ow N ops σ i (anyA E ow N md ops σ Q fuel (listed.setIfInBounds i true)) f

/-- The walk in the order of the text. -/
def aopsQ (E : Env) (ow : List Nat) (N : Nat) (ops : Array Oper) (σ : Store) (Q : (Nat → AV) → Prop) : List Oper → (Nat → AV) → Prop
  | [], f => Q f
  | o :: l, f => match aGuard ops f o with
    | some g => (g = true → ∃ a, opK E ow o f σ (fun a' σ' => a' = a ∧ σ' = σ) ∧ aput N f o.dst a fun f' => aopsQ E ow N ops σ Q l f') ∧ (g = false → aput N f o.dst (.tup []) fun f' => aopsQ E ow N ops σ Q l f')
    | none => False

theorem aput_mono {f : Nat → AV} {d : Option Tmp} {a : AV} {K K' : (Nat → AV) → Prop} (h : ∀ f, K f → K' f) (hh : aput N f d a K) : aput N f d a K' := by
  unfold aput at *
  split
  · exact h _ hh
  · exact ⟨hh.1, h _ hh.2⟩

theorem qA_mono {i : Nat} {f : Nat → AV} {K K' : (Nat → AV) → Prop} (h : ∀ f, K f → K' f) (hh : qA E ow N ops σ i K f) : qA E ow N ops σ i K' f := by
  unfold qA at *
  split
  · rename_i ho; simp only [ho] at hh; exact h _ hh
  · rename_i o ho
    simp only [ho] at hh
    split
    · rename_i g hg
      simp only [hg] at hh
      exact ⟨fun e => let ⟨a, h1, h2⟩ := hh.1 e; ⟨a, h1, aput_mono h h2⟩, fun e => aput_mono h (hh.2 e)⟩
    · rename_i hg; simp only [hg] at hh

/-- In this frame operation o leaves a in its temporary. -/
def YieldsA (E : Env) (ow : List Nat) (N : Nat) (ops : Array Oper) (σ : Store) (o : Oper) (a : AV) (f : Nat → AV) : Prop :=
  (∀ d, o.dst = some d → d < N) ∧ ((aGuard ops f o = some true ∧ opK E ow o f σ (fun a' σ' => a' = a ∧ σ' = σ)) ∨ (aGuard ops f o = some false ∧ a = .tup []))

def fput (f : Nat → AV) (d : Option Tmp) (a : AV) : Nat → AV :=
  match d with
  | none => f
  | some d => upd f d a

theorem aput_iff {f : Nat → AV} {d : Option Tmp} {a : AV} {K : (Nat → AV) → Prop} : aput N f d a K ↔ (∀ e, d = some e → e < N) ∧ K (fput f d a) := by
  unfold aput fput
  cases d <;> simp

theorem YieldsA.qA {i : Nat} {o : Oper} {a : AV} {f : Nat → AV} (hi : ops[i]? = some o) (hy : YieldsA E ow N ops σ o a f) {K : (Nat → AV) → Prop} (h : K (fput f o.dst a)) : qA E ow N ops σ i K f := by
  unfold AW.qA
  simp only [hi]
  obtain ⟨hd, ⟨hg, ho⟩ | ⟨hg, rfl⟩⟩ := hy
  · simp only [hg]; exact ⟨fun _ => ⟨a, ho, aput_iff.2 ⟨hd, h⟩⟩, fun e => (nomatch e)⟩
  · simp only [hg]; exact ⟨fun e => (nomatch e), fun _ => aput_iff.2 ⟨hd, h⟩⟩

theorem yieldsA_of_qA {i : Nat} {o : Oper} {f : Nat → AV} {K : (Nat → AV) → Prop} (hi : ops[i]? = some o) (h : qA E ow N ops σ i K f) : ∃ a, YieldsA E ow N ops σ o a f ∧ K (fput f o.dst a) := by
  unfold qA at h
  simp only [hi] at h
  split at h
  · rename_i g hg
    cases g with
    | true =>
      obtain ⟨a, h1, h2⟩ := h.1 rfl
      obtain ⟨h3, h4⟩ := aput_iff.1 h2
      exact ⟨a, ⟨h3, .inl ⟨hg, h1⟩⟩, h4⟩
    | false =>
      obtain ⟨h3, h4⟩ := aput_iff.1 (h.2 rfl)
      exact ⟨_, ⟨h3, .inr ⟨hg, rfl⟩⟩, h4⟩
  · exact h.elim

theorem aeval_fput {G : Nat → Option (List AV)} {f : Nat → AV} {d : Option Tmp} {a : AV} {x : Operand} (h : ∀ e, d = some e → x ≠ .tmp e) : aeval G (fput f d a) x = aeval G f x := by
  cases d with
  | none => rfl
  | some e =>
    cases x with
    | tmp t =>
      have : t ≠ e := fun he => h e rfl (he ▸ rfl)
      simp [aeval, fput, upd, this]
    | _ => rfl

theorem opK_fput {o : Oper} {f : Nat → AV} {d : Option Tmp} {a : AV} {K : AV → Store → Prop} (h : ∀ e, d = some e → e ∉ o.looksAt ops) : opK E ow o (fput f d a) σ K = opK E ow o f σ K :=
  opK_congr fun x hx => aeval_fput fun e he hxe => h e he (by
    subst hxe
    exact List.mem_append_left _ (List.mem_filterMap.2 ⟨.tmp e, by simpa using hx, rfl⟩))

theorem aGuard_fput {o : Oper} {f : Nat → AV} {d : Option Tmp} {a : AV} (h : ∀ e, d = some e → e ∉ o.looksAt ops) : aGuard ops (fput f d a) o = aGuard ops f o := by
  cases d with
  | none => rfl
  | some e =>
    unfold aGuard
    cases hg : o.guard with
    | none => rfl
    | some gw =>
      obtain ⟨j, want⟩ := gw
      simp only
      cases hd : (ops[j]?).bind (·.dst) with
      | none => rfl
      | some t =>
        have hne : t ≠ e := fun he => h e rfl (by
          subst he
          unfold Oper.looksAt
          rw [hg]
          simp [hd])
        simp [fput, upd, hne]

theorem fput_comm {f : Nat → AV} {x y : Option Tmp} (u v : AV) (h : ∀ d, x = some d → y ≠ some d) : fput (fput f x u) y v = fput (fput f y v) x u := by
  cases x with
  | none => rfl
  | some d =>
    cases y with
    | none => rfl
    | some e =>
      have hne : d ≠ e := fun he => h d rfl (he ▸ rfl)
      funext t
      simp only [fput, upd]
      by_cases h1 : t = e
      · subst h1; simp [Ne.symm hne]
      · by_cases h2 : t = d
        · subst h2; simp [h1]
        · simp [h1, h2]

theorem YieldsA.keep {o : Oper} {a : AV} {f : Nat → AV} (hy : YieldsA E ow N ops σ o a f) {d : Option Tmp} (u : AV) (h : ∀ e, d = some e → e ∉ o.looksAt ops) : YieldsA E ow N ops σ o a (fput f d u) := by
  obtain ⟨h1, h2⟩ := hy
  refine ⟨h1, ?_⟩
  rw [aGuard_fput h]
  rcases h2 with ⟨hg, ho⟩ | h2
  · exact .inl ⟨hg, by rw [opK_fput h]; exact ho⟩
  · exact .inr h2

theorem qA_put {j : Nat} {oi oj : Oper} {a : AV} (hj : ops[j]? = some oj) (hap : oi.apart ops oj = true) {K : (Nat → AV) → Prop} {f : Nat → AV} (hy : YieldsA E ow N ops σ oi a f) (h : qA E ow N ops σ j K (fput f oi.dst a)) :
    qA E ow N ops σ j (fun f' => YieldsA E ow N ops σ oi a f' ∧ K (fput f' oi.dst a)) f := by
  obtain ⟨h1, h2, h3⟩ := Oper.apart_spec hap
  obtain ⟨b, hyb, hK⟩ := yieldsA_of_qA hj h
  have hyb' : YieldsA E ow N ops σ oj b f := by
    obtain ⟨k1, k2⟩ := hyb
    refine ⟨k1, ?_⟩
    rw [aGuard_fput h1] at k2
    rcases k2 with ⟨hg, ho⟩ | k2
    · exact .inl ⟨hg, by rwa [opK_fput h1] at ho⟩
    · exact .inr k2
  refine YieldsA.qA hj hyb' ⟨hy.keep b h3, ?_⟩
  rw [← fput_comm a b h2]
  exact hK

theorem anyA_first {Q : (Nat → AV) → Prop} {i : Nat} {oi : Oper} {a : AV} (hi : ops[i]? = some oi) :
    ∀ (fuel : Nat) (listed : Array Bool) (f : Nat → AV),
      (∀ j oj, ops[j]? = some oj → j ≠ i → listed.getD j true = false → (∀ e ∈ oj.after, Region.binds md e = true → e.on ≠ i) → oi.apart ops oj = true) →
      i ∈ Region.ready md ops listed → YieldsA E ow N ops σ oi a f →
      anyA E ow N md ops σ Q fuel (listed.setIfInBounds i true) (fput f oi.dst a) → anyA E ow N md ops σ Q (fuel + 1) listed f := by
  intro fuel
  induction fuel with
  | zero =>
    intro listed f _ hr hy H
    refine ⟨fun h => (by rw [h] at hr; cases hr), fun j hj => ?_⟩
    by_cases hji : j = i
    · subst hji; exact hy.qA hi H
    · have := ready_mono hj hji
      rw [H.1] at this
      cases this
  | succ fuel ih =>
    intro listed f hfree hr hy H
    refine ⟨fun h => (by rw [h] at hr; cases hr), fun j hj => ?_⟩
    by_cases hji : j = i
    · subst hji; exact hy.qA hi H
    · have h1 := H.2 j (ready_mono hj hji)
      obtain ⟨hjun, oj, hoj, hall⟩ := mem_ready.1 hj
      have hnot : ∀ e ∈ oj.after, Region.binds md e = true → e.on ≠ i := fun e he hb heq => by
        have h1 := hall e he hb
        have h0 := (mem_ready.1 hr).1
        rw [heq] at h1
        rcases Nat.lt_or_ge i listed.size with h' | h'
        · simp [h'] at h0 h1; rw [h0] at h1; cases h1
        · simp [Array.getElem?_eq_none h'] at h1
      have h2 := qA_put hoj (hfree j oj hoj hji hjun hnot) hy h1
      have hfree' : ∀ k ok, ops[k]? = some ok → k ≠ i → (listed.setIfInBounds j true).getD k true = false →
          (∀ e ∈ ok.after, Region.binds md e = true → e.on ≠ i) → oi.apart ops ok = true := fun k ok hk hki hun hno => by
        refine hfree k ok hk hki ?_ hno
        by_cases hjk : j = k
        · subst hjk; exact hjun
        · rw [getD_set_ne true hjk] at hun; exact hun
      refine qA_mono (fun f' h3 => ih (listed.setIfInBounds j true) f' hfree' (ready_mono hr (Ne.symm hji)) h3.1 ?_) h2
      rw [Array.setIfInBounds_comm _ _ hji]
      exact h3.2

theorem anyA_lex {Q : (Nat → AV) → Prop} : ∀ (l : List Oper) (k : Nat) (listed : Array Bool) (f : Nat → AV), (∀ j, l[j]? = ops[k + j]?) →
    Region.lexFrom md ops l.length k listed = true → aopsQ E ow N ops σ Q l f → anyA E ow N md ops σ Q l.length listed f
  | [], _, _, _, _, hB, h => ⟨by simpa [Region.lexFrom] using hB, h⟩
  | o :: l, k, listed, f, hl, hB, h => by
    have h0 : ops[k]? = some o := by simpa using (hl 0).symm
    simp only [List.length_cons, Region.lexFrom, Bool.and_eq_true] at hB
    obtain ⟨⟨hr, hf⟩, hB'⟩ := hB
    have hst : qA E ow N ops σ k (aopsQ E ow N ops σ Q l) f := by unfold qA; simp only [h0]; exact h
    obtain ⟨a, hy, hK⟩ := yieldsA_of_qA h0 hst
    exact anyA_first h0 l.length listed f (Region.free_spec h0 hf) (by simpa using hr) hy
      (anyA_lex l (k + 1) _ _ (fun j => by have := hl (j + 1); simpa [Nat.add_assoc, Nat.add_comm 1 j] using this) hB' hK)

theorem anyA_ok {n : Nat} {Γ0 : Ctx} {w0 : World} {rd : Option Nat} {ds0 : Ds0} {Q : (Nat → AV) → Prop} {Q' : Exit → Act → World → Prop}
    (hQ : ∀ Γ w f a, ExtN n Γ0 w0 Γ w → R E Γ σ w → TR N Γ w f a.tmps → Marks w ds0 a → Q f → Q' .normal a w)
    (hP : ∀ v w a, PanRes E n Γ0 w0 v w → Marks w ds0 a → Q' (.panic [{ v := v, recovered := false }]) a w) (hw : ∀ (i : Nat) (o : Oper), ops[i]? = some o → kpOk ds0 o.dst) :
    ∀ (fuel : Nat) (listed : Array Bool) (f : Nat → AV) (Γ : Ctx) (w : World) (a : Act), ExtN n Γ0 w0 Γ w → R E Γ σ w → TR N Γ w f a.tmps → Marks w ds0 a → anyA E ow N md ops σ Q fuel listed f → wpAnyIn (wideR rd) 0 E.P md ops Q' fuel listed a w
  | 0, listed, f, Γ, w, a, hx, hr, ht, hd, h => ⟨h.1, hQ Γ w f a hx hr ht hd h.2⟩
  | fuel + 1, listed, f, Γ, w, a, hx, hr, ht, hd, h => by
    refine ⟨fun h0 => hQ Γ w f a hx hr ht hd (h.1 h0), fun i hi => ?_⟩
    have h1 := h.2 i hi
    unfold wpOpIn
    unfold qA at h1
    split
    · rename_i ho
      simp only [ho] at h1
      exact anyA_ok hQ hP hw fuel _ f Γ w a hx hr ht hd h1
    · rename_i o ho
      simp only [ho] at h1
      split at h1
      · rename_i g hg
        cases g with
        | true =>
          obtain ⟨x, hx1, hx2⟩ := h1.1 rfl
          rw [if_pos (aGuard_ok ht hg)]
          refine Up.upon (opK_ok (ρ := a.eval) hr (fun x _ => ht.eval hr x) (fun _ => rfl) hx1) (opK_defer hx1) ?_ ?_
          · rintro v w' ⟨Γ', y, σ', k1, k2, k3, e1, e2⟩
            rw [e2] at k2
            rw [e1] at k3
            obtain ⟨f', ht', hk, hd'⟩ := aput_ok (ht.ext k1) k3 hx2
            exact anyA_ok hQ hP hw fuel _ f' Γ' w' _ (hx.trans (k1.mono hx.le')) k2 ht' ((hd.ext hr k1).put (hw _ _ ho)) hk
          · intro v w' h
            obtain ⟨Γ', h1⟩ := h.ext
            exact hP v w' a (.of_res hx h) (hd.ext hr h1)
        | false =>
          rw [if_neg (by rw [aGuard_ok ht hg]; simp)]
          obtain ⟨f', ht', hk, hd'⟩ := aput_ok ht (VR.undef_ Γ w) (h1.2 rfl)
          exact ⟨fun _ _ => trivial, anyA_ok hQ hP hw fuel _ f' Γ w _ hx hr ht' (hd.put (hw _ _ ho)) hk⟩
      · exact h1.elim

end

section
variable {E : Env} {n N : Nat} {f : Nat → AV} {σ : Store} {Q : AExit → (Nat → AV) → Store → Prop}

theorem R.drew {E : Env} {Γ : Ctx} {σ : Store} {w : World} (hr : R E Γ σ w) : ExtN Γ.next Γ w Γ { w with drawn := w.drawn + 1 } ∧ R E Γ σ { w with drawn := w.drawn + 1 } :=
  hr.same_ctx ⟨rfl, rfl, rfl, Nat.le_refl _, fun _ _ _ => rfl⟩

/-- A region that draws its order and leaves the store alone. -/
theorem AW.draw (ow : List Nat) {id : Nat} {l : List Oper} (hm : E.P.follows .mixedOrders = true) (hB : Region.lexFrom .any l.toArray l.length 0 (Array.replicate l.length false) = true) (h : aopsQ E ow N l.toArray σ (fun f => Q .normal f σ) l f) :
    AW E n N (.region id l.toArray true) f σ Q := by
  intro rd ds0 Γ w a hrd hn hr ht hd
  obtain ⟨hx, hr'⟩ := hr.drew
  refine wpIn_region_any hm ?_
  refine anyA_ok (E := E) (ow := ow) (N := N) (σ := σ) (n := n) (Γ0 := Γ) (w0 := w) (rd := rd) (ds0 := ds0) (Q := fun f => Q .normal f σ) ?_ ?_ hrd.opAt _ _ f Γ _ a (hx.mono hn) hr' (ht.ext hx) (hd.ext hr hx) ?_
  · intro Γ' w' f' a' hx' hr'' ht' hd' hq
    exact .inl ⟨Γ', f', σ, .normal, trivial, hx', hr'', ht', hd', hq⟩
  · intro v w' a' hp hm
    exact .inr ⟨v, rfl, hp, hm⟩
  · have := anyA_lex (E := E) (ow := ow) (N := N) (σ := σ) (md := .any) (ops := l.toArray) l 0 (Array.replicate l.length false) f (by simp) hB h
    simpa using this

theorem AW.stepD (ow : List Nat) {id : Nat} {l : List Oper} {d : Code} (hm : E.P.follows .mixedOrders = true) (hB : Region.lexFrom .any l.toArray l.length 0 (Array.replicate l.length false) = true)
    (h : ∀ K : (Nat → AV) → Store → Prop, (∀ f σ, AW E n N d f σ Q → K f σ) → aopsQ E ow N l.toArray σ (fun f => K f σ) l f) : AW E n N (.seq (.region id l.toArray true) d) f σ Q :=
  AW.seq_k fun K hK => AW.draw ow hm hB (h K hK)
end

end Go.AW
end

section
set_option linter.unusedVariables false
set_option linter.unusedSimpArgs false
set_option linter.unnecessarySimpa false
namespace Go.AW
open Go

/-! ### What an abstract value of a plain type is -/
def RdParts (r : TypeId → AV → Prop) : List Field → List AV → Prop
  | [], cs => cs = []
  | f :: fs, cs => ∃ a cs', cs = a.cells ++ cs' ∧ r f.type a ∧ RdParts r fs cs'

def Rd (P : Program) : Nat → TypeId → AV → Prop
  | 0, _, _ => False
  | n + 1, t, a =>
    match P.underlying t with
    | some .bool => ∃ b, a = .c (.bool b)
    | some (.int k) => ∃ z, a = .c (.int k z) ∧ k.min ≤ z ∧ z ≤ k.max
    | some .string => ∃ s : ByteArray, a = .c (.string s) ∧ s.size ≤ maxLen
    | some (.slice e) => ∃ es, a = .ps es ∧ es.length ≤ maxLen ∧ ∀ x ∈ es, Rd P n e x
    | some (.struct fs) => ∃ cs, a = .agg cs ∧ RdParts (Rd P n) fs.toList cs
    | _ => False

def tilesB (P : Program) : List Field → Nat → Nat → Bool
  | [], o, n => o == n
  | f :: fs, o, n => f.offset == o && tilesB P fs (o + P.cellsOf f.type) n

def plainB (P : Program) : Nat → TypeId → Bool
  | 0, _ => false
  | n + 1, t =>
    match P.underlying t with
    | some .bool => true
    | some (.int _) => true
    | some .string => true
    | some (.slice e) => decide (P.cellsOf e ≠ 0) && plainB P n e
    | some (.struct fs) => tilesB P fs.toList 0 (P.cellsOf t) && fs.toList.all fun f => plainB P n f.type
    | _ => false

mutual
def blk : AV → Nat
  | .c (.string s) => s.size + 1
  | .ps es => blkAll es + 1
  | .agg cs => blkAll cs + 1
  | _ => 1
def blkAll : List AV → Nat
  | [] => 0
  | a :: l => blk a + blkAll l
end

mutual
/-- What a reading says, as an abstract value. -/
def avOf {H : Type} : DataW H → AV
  | .lit (.bool b) => .c (.bool b)
  | .lit (.int k z) => .c (.int k z)
  | .lit (.string l) => .c (.string ⟨l.toArray⟩)
  | .nil => .ps []
  | .slice e _ => .ps (avOfs e)
  | .agg p => .agg (avCells p)
  | _ => .junk
def avOfs {H : Type} : List (DataW H) → List AV
  | [] => []
  | d :: r => avOf d :: avOfs r
def avCells {H : Type} : List (DataW H) → List AV
  | [] => []
  | d :: r => (avOf d).cells ++ avCells r
end
theorem avOfs_get {H : Type} : ∀ (l : List (DataW H)) (i : Nat), (avOfs l)[i]? = (l[i]?).map avOf
  | [], i => by simp [avOfs]
  | d :: l, 0 => by simp [avOfs]
  | d :: l, i + 1 => by simp [avOfs, avOfs_get l i]

theorem blkAll_append (a b : List AV) : blkAll (a ++ b) = blkAll a + blkAll b := by
  induction a with
  | nil => simp [blkAll]
  | cons x a ih => simp only [List.cons_append, blkAll, ih]; omega

theorem blk_cells (a : AV) : blkAll a.cells ≤ blk a := by
  have h1 : ∀ x : AV, blkAll [x] = blk x := fun x => by rw [blkAll, blkAll]; rfl
  cases a with
  | agg cs => rw [blk]; exact Nat.le_succ _
  | _ => exact Nat.le_of_eq (h1 _)

structure BulkOk {H : Type} (B : DataW H → Nat) (BL : List (DataW H) → Nat) : Prop where
  lit : ∀ l, 1 ≤ B (.lit l)
  str : ∀ s, B (.lit (.string s)) = s.length + 1
  nil : B .nil = 1
  slice : ∀ e s, B (.slice e s) = BL e + BL s + 1
  agg : ∀ p, B (.agg p) = BL p + 1
  nilL : BL [] = 0
  cons : ∀ d r, BL (d :: r) = B d + BL r

theorem exists_list {α : Type} (n : Nat) (Q : Nat → α → Prop) (h : ∀ i, i < n → ∃ x, Q i x) : ∃ l : List α, l.length = n ∧ ∀ (i : Nat) (x : α), l[i]? = some x → Q i x := by
  induction n with
  | zero => exact ⟨[], rfl, fun i x h => by simp at h⟩
  | succ n ih =>
    obtain ⟨l, hl, hq⟩ := ih fun i hi => h i (by omega)
    obtain ⟨x, hx⟩ := h n (by omega)
    refine ⟨l ++ [x], by simp [hl], fun i y hy => ?_⟩
    rw [List.getElem?_append] at hy
    split at hy
    · exact hq i y hy
    · rename_i hi
      have : i = n := by
        have := (List.getElem?_eq_some_iff.1 hy).1
        simp at this; omega
      subst this
      simp [hl] at hy
      subst hy; exact hx

section
variable {H : Type} {enc : TypeId × Value → H} {P : Program} {w : World} {sp : Nat → Bool} {held : Bool} {B : DataW H → Nat} {BL : List (DataW H) → Nat}

theorem blkAll_le (hB : BulkOk B BL) : ∀ (es : List AV) (ds : List (DataW H)), es.length = ds.length → (∀ (i : Nat) (a : AV) (d : DataW H), es[i]? = some a → ds[i]? = some d → blk a ≤ B d) → blkAll es ≤ BL ds
  | [], [], _, _ => by simp [blkAll]
  | a :: es, d :: ds, hl, h => by
    have h0 := h 0 a d rfl rfl
    have := blkAll_le hB es ds (by simpa using hl) fun i a d ha hd => h (i + 1) a d (by simpa using ha) (by simpa using hd)
    rw [hB.cons]
    simp only [blkAll]; omega

theorem parts_of (hB : BulkOk B BL) {Γ : Ctx} {r : TypeId → AV → Prop} {g : Field → Option (DataW H × List MemPlace)} {cs : List Value} {n : Nat} (hn : cs.length = n) :
    ∀ (fs : List Field) (o : Nat) (xs : List (DataW H × List MemPlace)), tilesB P fs o n = true → fs.mapM g = some xs →
      (∀ f ∈ fs, ∀ x, g f = some x → ∃ a, r f.type a ∧ CellsRel Γ w a.cells ((cs.drop f.offset).take (P.cellsOf f.type)) ∧ blk a ≤ B x.1 ∧ a = avOf x.1) →
      ∃ as, RdParts r fs as ∧ CellsRel Γ w as (cs.drop o) ∧ blkAll as ≤ BL (xs.map (·.1)) ∧ as = avCells (xs.map (·.1))
  | [], o, xs, ht, hm, _ => by
    simp only [tilesB, beq_iff_eq] at ht
    have hxs : xs = [] := by simpa using hm.symm
    refine ⟨[], rfl, ?_, by simp [blkAll], by rw [hxs]; rfl⟩
    rw [List.drop_eq_nil_of_le (by omega)]
    exact ⟨rfl, by simp, by intro j x u h; simp at h⟩
  | f :: fs, o, xs, ht, hm, h => by
    simp only [tilesB, Bool.and_eq_true, beq_iff_eq] at ht
    obtain ⟨h1, h2⟩ := ht
    rw [List.mapM_cons] at hm
    cases hg : g f with
    | none => simp [hg] at hm
    | some x =>
      cases hgs : fs.mapM g with
      | none => simp [hg, hgs] at hm
      | some ys =>
        simp [hg, hgs] at hm
        subst hm
        obtain ⟨a, ha, hc, hb, hav⟩ := h f (by simp) x hg
        obtain ⟨as, hr, hcs, hbs, havs⟩ := parts_of hB hn fs (o + P.cellsOf f.type) ys h2 hgs fun f' hf' => h f' (by simp [hf'])
        refine ⟨a.cells ++ as, ⟨a, as, rfl, ha, hr⟩, ?_, ?_, by rw [List.map_cons, avCells, ← havs, ← hav]⟩
        · have e : cs.drop o = (cs.drop f.offset).take (P.cellsOf f.type) ++ cs.drop (o + P.cellsOf f.type) := by
            rw [h1, ← List.drop_drop, List.take_append_drop]
          rw [e]
          exact hc.append hcs
        · rw [blkAll_append, List.map_cons, hB.cons]
          have := blk_cells a
          omega

theorem cells_one {Γ : Ctx} {a : AV} {v : Value} (ha : a.cells = [a]) (hv : v.oneCell' = true) (h : VR Γ w a v) : CellsRel Γ w a.cells [v] := by
  rw [ha]
  refine ⟨rfl, by simpa using hv, fun j x u hx hu => ?_⟩
  cases j with
  | zero => simp at hx hu; subst hx; subst hu; exact h
  | succ j => simp at hx

theorem rd_of_trod (hB : BulkOk B BL) {Γ : Ctx} (hΓ : ∀ b, ¬ Γ.owns b) : ∀ (F n : Nat) (t : TypeId) (cs : List Value) (d : DataW H) (ps : List MemPlace), plainB P n t = true →
    DataW.trod enc P w 0 sp held F t cs = some (d, ps) → ∃ a, Rd P n t a ∧ CellsRel Γ w a.cells cs ∧ blk a ≤ B d ∧ a = avOf d
  | 0, _, _, _, _, _, _, h => by simp [DataW.trod] at h
  | _ + 1, 0, _, _, _, _, hp, _ => by simp [plainB] at hp
  | F + 1, n + 1, t, cs, d, ps, hp, h => by
    unfold plainB at hp
    unfold Rd
    unfold DataW.trod at h
    split at h <;> rename_i hu
    all_goals (try (simp only [hu, Bool.false_eq_true] at hp; done))
    all_goals (try simp only [hu] at hp ⊢)
    · rename_i b
      simp only [Option.some.injEq, Prod.mk.injEq] at h
      obtain ⟨rfl, rfl⟩ := h
      exact ⟨_, ⟨b, rfl⟩, cells_one rfl rfl (.c _ rfl), by simpa [blk] using hB.lit _, by rw [avOf]⟩
    · rename_i k k' z
      split at h
      · rename_i hk
        simp only [Option.some.injEq, Prod.mk.injEq] at h
        obtain ⟨rfl, rfl⟩ := h
        obtain ⟨rfl, hw⟩ := hk
        simp only [Lit.wf, Bool.and_eq_true, decide_eq_true_eq] at hw
        exact ⟨_, ⟨z, rfl, hw.1, hw.2⟩, cells_one rfl rfl (.c _ rfl), by simpa [blk] using hB.lit _, by rw [avOf]⟩
      · cases h
    · rename_i s
      split at h
      · rename_i hs
        simp only [Option.some.injEq, Prod.mk.injEq] at h
        obtain ⟨rfl, rfl⟩ := h
        refine ⟨_, ⟨s, rfl, hs⟩, cells_one rfl rfl (.c _ rfl), ?_, by rw [avOf]⟩
        rw [hB.str, Array.length_toList]
        simp [blk]
      · cases h
    · simp only [Option.some.injEq, Prod.mk.injEq] at h
      obtain ⟨rfl, rfl⟩ := h
      refine ⟨.ps [], ⟨[], rfl, by simp, by simp⟩, cells_one rfl rfl ?_, by simp [blk, blkAll, hB.nil], by rw [avOf]⟩
      exact .ps [] none 0 0 0 (fun _ _ => Go.undef) (by simp) (by simp) (by simp) (by simp) (by simp)
    · rename_i e a len cap
      simp only [Bool.and_eq_true, decide_eq_true_eq] at hp
      obtain ⟨hsz, hp⟩ := hp
      split at h
      case isFalse => cases h
      rename_i hc
      obtain ⟨_, hlc, hcm⟩ := hc
      rw [Option.bind_eq_some_iff] at h
      obtain ⟨elems, hel, h⟩ := h
      rw [Option.map_eq_some_iff] at h
      obtain ⟨rest, hrest, h⟩ := h
      simp only [Prod.mk.injEq] at h
      obtain ⟨rfl, rfl⟩ := h
      have hlen : elems.length = len := by have := mapM_some_length hel; simpa using this
      have hat : ∀ i, i < len → ∃ us y, elems[i]? = some y ∧ w.cells? 0 (a.add (i * P.cellsOf e)) (P.cellsOf e) = some us ∧ DataW.trod enc P w 0 sp held F e us = some y := by
        intro i hi
        have h1 := mapM_some_get hel i i (by simp [hi])
        have h2 : elems[i]? = some elems[i] := List.getElem?_eq_getElem (by omega)
        rw [h2, Option.bind_eq_some_iff] at h1
        obtain ⟨us, h3, h4⟩ := h1
        exact ⟨us, elems[i], h2, h3, h4⟩
      obtain ⟨es, hesl, hes⟩ := exists_list len (fun i x => ∃ us y, elems[i]? = some y ∧ w.cells? 0 (a.add (i * P.cellsOf e)) (P.cellsOf e) = some us ∧ Rd P n e x ∧ CellsRel Γ w x.cells us ∧ blk x ≤ B y.1 ∧ x = avOf y.1) fun i hi => by
        obtain ⟨us, ⟨y1, y2⟩, h1, h2, h3⟩ := hat i hi
        obtain ⟨x, h4, h5, h6, h7⟩ := rd_of_trod hB hΓ F n e us y1 y2 hp h3
        exact ⟨x, us, _, h1, h2, h4, h5, h6, h7⟩
      have hcell : ∀ (k : Nat) (x : AV), es[k]? = some x → x.cells.length = P.cellsOf e ∧ ∃ us, us.length = P.cellsOf e ∧ CellsRel Γ w x.cells us ∧ ∀ j, j < P.cellsOf e → w.cell? ((a.add (k * P.cellsOf e)).add j) = us[j]? := by
        intro k x hx
        obtain ⟨us, y, _, h2, _, h5, _, _⟩ := hes k x hx
        unfold World.cells? at h2
        split at h2
        · have hl : us.length = P.cellsOf e := by have := mapM_some_length h2; simpa using this
          exact ⟨h5.1.symm.trans hl, us, hl, h5, fun j hj => mapM_some_get h2 j j (by simp [hj])⟩
        · cases h2
      have hspot : es ≠ [] → a.spot = none := by
        intro hne
        have hpos := List.length_pos_iff.2 hne
        have h0 : es[0]? = some es[0] := List.getElem?_eq_getElem hpos
        obtain ⟨h1, us, h2, h3, h4⟩ := hcell 0 _ h0
        have h5 := h4 0 (by omega)
        rw [List.getElem?_eq_getElem (by omega)] at h5
        simp [Addr.add, World.cell?] at h5
        split at h5
        · cases hs : a.spot with
          | none => rfl
          | some s => simp [hs] at h5
        · cases h5
      have hadd : a.spot = none → ∀ m j, (a.add m).add j = ⟨a.block, a.off + m + j, none⟩ := by
        intro hs m j
        obtain ⟨b, o, s⟩ := a
        simp only at hs; subst hs
        unfold Addr.add
        split <;> split <;> simp_all [Nat.add_assoc]
      have hav : es = avOfs (elems.map (·.1)) := by
        apply List.ext_getElem?
        intro i
        rw [avOfs_get, List.getElem?_map]
        by_cases hi : i < len
        · have hx : es[i]? = some es[i] := List.getElem?_eq_getElem (by omega)
          obtain ⟨us, y, h1, _, _, _, _, h7⟩ := hes i _ hx
          rw [hx, h1, h7]; rfl
        · rw [List.getElem?_eq_none (by omega), List.getElem?_eq_none (by omega)]; rfl
      refine ⟨.ps es, ⟨es, rfl, by omega, fun x hx => ?_⟩, cells_one rfl rfl ?_, ?_, by rw [avOf, ← hav]⟩
      · obtain ⟨i, hi⟩ := List.getElem?_of_mem hx
        obtain ⟨_, _, _, _, h, _⟩ := hes i x hi
        exact h
      · have hb : es ≠ [] → a.block < w.heap.size := by
          intro hne
          have hpos := List.length_pos_iff.2 hne
          have h0 : es[0]? = some es[0] := List.getElem?_eq_getElem hpos
          obtain ⟨h1, us, h2, h3, h4⟩ := hcell 0 _ h0
          have h5 := h4 0 (by omega)
          rw [List.getElem?_eq_getElem (by omega), hadd (hspot hne)] at h5
          have := cell_lt h5
          exact this
        rw [← hesl]
        refine .ps es (some a) cap a.block a.off (fun k j => (w.cell? ⟨a.block, a.off + k * P.cellsOf e + j, none⟩).getD Go.undef) (by omega) (fun hne => ⟨?_, hb hne⟩) ?_ ?_ ?_
        · obtain ⟨b, o, s⟩ := a
          have := hspot hne
          simp only at this; subst this; rfl
        all_goals
          intro k x j y hk hj
          have hne : es ≠ [] := by intro e0; subst e0; simp at hk
          obtain ⟨h1, us, h2, h3, h4⟩ := hcell k x hk
          have hjl := (List.getElem?_eq_some_iff.1 hj).1
          have h5 := h4 j (by omega)
          rw [List.getElem?_eq_getElem (by omega), hadd (hspot hne)] at h5
          first
          | exact ⟨by rw [h1, h5]; rfl, Ctx.fixd_of (hΓ _)⟩
          | (simp only [h5, Option.getD_some]; exact h3.2.1 _ (List.getElem_mem _))
          | (simp only [h5, Option.getD_some]; exact h3.2.2 j y _ hj (List.getElem?_eq_getElem _))
      · rw [hB.slice]
        have := blkAll_le hB es (elems.map (·.1)) (by simp; omega) fun i x y hx hy => by
          obtain ⟨_, z, h1, _, _, h6, h2, _⟩ := hes i x hx
          clear h6
          simp only [List.getElem?_map, h1, Option.map_some, Option.some.injEq] at hy
          subst hy; exact h2
        simp only [blk]; omega
    · rename_i fs
      simp only [Bool.and_eq_true, List.all_eq_true] at hp
      split at h
      · rename_i hlen
        rw [Option.map_eq_some_iff] at h
        obtain ⟨xs, hm, h⟩ := h
        simp only [Prod.mk.injEq] at h
        obtain ⟨rfl, rfl⟩ := h
        obtain ⟨as, h1, h2, h3, h4⟩ := parts_of (w := w) (P := P) (Γ := Γ) (r := Rd P n) hB hlen fs.toList 0 xs hp.1 hm fun f hf x hx => rd_of_trod hB hΓ F n f.type _ x.1 x.2 (hp.2 f hf) hx
        refine ⟨.agg as, ⟨as, rfl, h1⟩, by simpa [AV.cells] using h2, ?_, by rw [avOf, ← h4]⟩
        rw [hB.agg]; simp only [blk]; omega
      · cases h
    all_goals (cases h)

/-- All arguments. -/
def RdAll (P : Program) (n : Nat) : List TypeId → List AV → Prop
  | [], as => as = []
  | t :: ts, as => ∃ a as', as = a :: as' ∧ Rd P n t a ∧ RdAll P n ts as'

theorem rd_value {Γ : Ctx} {n : Nat} {t : TypeId} {v : Value} {a : AV} {base : Nat} (hok : Value.okWide P w .any base t v) (hr : Rd P n t a) (h : CellsRel Γ w a.cells v.cells.toList) : VR Γ w a v := by
  cases n with
  | zero => exact hr.elim
  | succ n =>
    have one : ∀ {x : AV}, x.cells = [x] → v.oneCell' = true → CellsRel Γ w x.cells v.cells.toList → VR Γ w x v := by
      intro x hx hv h
      rw [hx] at h
      have : v.cells.toList = [v] := by cases v <;> simp_all [Value.cells, Value.oneCell']
      rw [this] at h
      exact h.2.2 0 _ _ rfl rfl
    unfold Rd at hr
    unfold Value.okWide at hok
    have cell : Cell.okWide P w .any base t v → v.oneCell' = true := by
      intro hc
      unfold Cell.okWide at hc
      split at hc <;> first | rfl | skip
      unfold Cell.ok at hc
      split at hc <;> first | rfl | exact hc.elim
    split at hr <;> rename_i hu
    · obtain ⟨b, rfl⟩ := hr
      exact one rfl (cell (by simpa [hu] using hok)) h
    · obtain ⟨b, rfl, _⟩ := hr
      exact one rfl (cell (by simpa [hu] using hok)) h
    · obtain ⟨b, rfl, _⟩ := hr
      exact one rfl (cell (by simpa [hu] using hok)) h
    · obtain ⟨b, rfl, _⟩ := hr
      exact one rfl (cell (by simpa [hu] using hok)) h
    · obtain ⟨cs, rfl, _⟩ := hr
      simp only [hu] at hok
      obtain ⟨xs, rfl, _⟩ := hok
      have := h.agg
      simpa [Value.cells, AV.cells] using this
    · exact hr.elim

theorem rdAll_of (hB : BulkOk B BL) {Γ : Ctx} (hΓ : ∀ b, ¬ Γ.owns b) {n base : Nat} : ∀ (ts : List TypeId) (vs : List Value) (ds : List (DataW H)) (ps : List MemPlace), ts.all (plainB P n) = true →
    DataW.TrodAll enc P w 0 sp held ts vs ds ps → (∀ (j : Nat) t v, ts[j]? = some t → vs[j]? = some v → Value.okWide P w .any base t v) → ∃ as, RdAll P n ts as ∧ VRs Γ w as vs ∧ blkAll as ≤ BL ds
  | [], [], [], ps, _, _, _ => ⟨[], rfl, ⟨rfl, by intro j a v h; simp at h⟩, by simp [blkAll]⟩
  | t :: ts, v :: vs, d :: ds, ps, hp, h, hok => by
    simp only [List.all_cons, Bool.and_eq_true] at hp
    obtain ⟨p, q, ⟨F, h1⟩, h2, _⟩ := h
    obtain ⟨a, ha, hc, hb, _⟩ := rd_of_trod hB hΓ F n t _ d p hp.1 h1
    obtain ⟨as, has, hvs, hbs⟩ := rdAll_of hB hΓ ts vs ds q hp.2 h2 fun j t v ht hv => hok (j + 1) t v (by simpa using ht) (by simpa using hv)
    refine ⟨a :: as, ⟨a, as, rfl, ha, has⟩, ⟨by simp [hvs.1], fun j x u hx hu => ?_⟩, by rw [hB.cons]; simp only [blkAll]; omega⟩
    cases j with
    | zero =>
      obtain rfl := Option.some.inj hx
      obtain rfl := Option.some.inj hu
      exact rd_value (hok 0 t v rfl rfl) ha hc
    | succ j => exact hvs.2 j x u (by simpa using hx) (by simpa using hu)
  | [], _ :: _, _, _, _, h, _ => by simp [DataW.TrodAll] at h
  | [], [], _ :: _, _, _, h, _ => by simp [DataW.TrodAll] at h
  | _ :: _, [], _, _, _, h, _ => by simp [DataW.TrodAll] at h
  | _ :: _, _ :: _, [], _, _, h, _ => by simp [DataW.TrodAll] at h
end

/-- A list of abstract values that are each made from something. -/
theorem list_of {α : Type} {f : α → AV} {p : α → Prop} : ∀ {es : List AV}, (∀ x ∈ es, ∃ y, x = f y ∧ p y) → ∃ l : List α, es = l.map f ∧ ∀ y ∈ l, p y
  | [], _ => ⟨[], rfl, by simp⟩
  | x :: es, h => by
    obtain ⟨y, rfl, hy⟩ := h x (by simp)
    obtain ⟨l, rfl, hl⟩ := list_of (f := f) (p := p) (es := es) fun x hx => h x (by simp [hx])
    exact ⟨y :: l, rfl, by simpa using ⟨hy, hl⟩⟩

theorem u8_byteV {z : Int} (h0 : IntKind.u8.min ≤ z) (h1 : z ≤ IntKind.u8.max) : (AV.c (.int .u8 z)) = byteV (UInt8.ofNat z.toNat) := by
  simp [IntKind.min, IntKind.max, IntKind.signed, IntKind.bits] at h0 h1
  unfold byteV
  congr 2
  have : (UInt8.ofNat z.toNat).toNat = z.toNat := by simp; omega
  rw [this]; omega

theorem bytes_of {es : List AV} (h : ∀ x ∈ es, ∃ z, x = .c (.int .u8 z) ∧ IntKind.u8.min ≤ z ∧ z ≤ IntKind.u8.max) : ∃ l : List UInt8, es = l.map byteV := by
  obtain ⟨l, hl, _⟩ := list_of (f := byteV) (p := fun _ => True) (es := es) fun x hx => by
    obtain ⟨z, rfl, h0, h1⟩ := h x hx
    exact ⟨_, u8_byteV h0 h1, trivial⟩
  exact ⟨l, hl⟩

/-! ### The end: the answer is true, what was there before is as it was -/
def Γ0 (B : Nat) : Ctx := ⟨fun _ => none, 0, B⟩
def σ0 : Store := ⟨fun _ => none, 0⟩
theorem Γ0_owns (B b : Nat) : ¬ (Γ0 B).owns b := by rintro ⟨i, l, h, _⟩; simp [Γ0] at h

theorem R.empty {E : Env} {w : World} (hg : ∀ g cs, E.G g = some cs → GR (Γ0 w.heap.size) w cs g ∧ ∀ m, Bel m (.pp cs)) : R E (Γ0 w.heap.size) σ0 w :=
  ⟨rfl, fun i => rfl, fun i _ => rfl, fun i j li lj b h => by simp [Γ0] at h, fun i o l h => by simp [σ0] at h, fun g cs h => (hg g cs h).1, fun g cs m h => (hg g cs h).2 m, Nat.le_refl _, fun i o l h => by simp [σ0] at h⟩

theorem ExtN.below {n : Nat} {Γ' : Ctx} {w w' : World} (h : ExtN n (Γ0 w.heap.size) w Γ' w') : Go.RowKit.Below w.heap.size w w' :=
  ⟨h.os, h.tape, h.output, h.size, fun k hk => by
    rcases (h.sealed k hk (Γ0_owns _ k)).1 with e | ⟨e, _⟩
    · exact e
    · exact absurd e (by show ¬ w.heap.size ≤ k; omega)⟩

section
open Go.RowKit Go.ChangeShapes
variable {H : Type} {enc : TypeId × Value → H} {P : Program}

theorem trodAll_below (hl : laidOutB P = true) {W W' : World} (hb : Below W.heap.size W W') : ∀ (ts : List TypeId) (vs : List Value) (ds : List (DataW H)) (ps : List MemPlace), ts.all (fun t => P.readableRec t && decide (t < P.types.size)) = true →
    DataW.TrodAll enc P W 0 (fun _ => true) true ts vs ds ps → (∀ x ∈ ps, x.block < W.heap.size) → DataW.TrodAll enc P W' 0 (fun b => decide (b < W.heap.size)) true ts vs ds ps
  | [], [], [], ps, _, h, _ => h
  | t :: ts, v :: vs, d :: ds, ps, hp, h, hlt => by
    simp only [List.all_cons, Bool.and_eq_true, decide_eq_true_eq] at hp
    obtain ⟨p, q, h1, h2, rfl⟩ := h
    exact ⟨p, q, Below.trod hl hp.1.1 hp.1.2 h1 hb fun x hx => hlt x (by simp [hx]), trodAll_below hl hb ts vs ds q (by simpa using hp.2) h2 fun x hx => hlt x (by simp [hx]), rfl⟩
  | [], _ :: _, _, _, _, h, _ => by simp [DataW.TrodAll] at h
  | [], [], _ :: _, _, _, h, _ => by simp [DataW.TrodAll] at h
  | _ :: _, [], _, _, _, h, _ => by simp [DataW.TrodAll] at h
  | _ :: _, _ :: _, [], _, _, h, _ => by simp [DataW.TrodAll] at h

theorem trodAll_length {w : World} {b : Nat} {sp : Nat → Bool} {hd : Bool} : ∀ (ts : List TypeId) (vs : List Value) (ds : List (DataW H)) (ps : List MemPlace), DataW.TrodAll enc P w b sp hd ts vs ds ps → ds.length = ts.length
  | [], [], [], ps, h => rfl
  | t :: ts, v :: vs, d :: ds, ps, h => by
    obtain ⟨p, q, h1, h2, _⟩ := h
    simp [trodAll_length ts vs ds q h2]
  | [], _ :: _, _, _, h => by simp [DataW.TrodAll] at h
  | [], [], _ :: _, _, h => by simp [DataW.TrodAll] at h
  | _ :: _, [], _, _, h => by simp [DataW.TrodAll] at h
  | _ :: _, _ :: _, [], _, h => by simp [DataW.TrodAll] at h

/-- THE ROW's CLOSE: a law whose contract says 'true' at every reading of its arguments. -/
theorem row_of {B : DataW H → Nat} {BL : List (DataW H) → Nat} (hB : BulkOk B BL) {E : Env} {f : FuncId} {fn : Func} {s : ChangeSpec} {n tb : Nat} (hl : laidOutB E.P = true)
    (hp : fn.params.toList.all (plainB E.P n) = true) (hrd : fn.params.toList.all (fun t => E.P.readableRec t && decide (t < E.P.types.size)) = true)
    (hrt : fn.resultTypes = #[tb]) (htb : E.P.underlying tb = some .bool) (hvars : s.vars = []) {W : World} {base : Nat} {args : Array Value} {ds gs : List (DataW H)} {before : List MemPlace}
    (hs : ∀ ds : List (DataW H), ds.length = fn.params.toList.length → (s.fn H ds).results = [.lit (.bool true)] ∧ (s.fn H ds).args = ds ∧ (s.fn H ds).vars = [])
    (hg : ∀ g cs, E.G g = some cs → GR (Γ0 W.heap.size) W cs g ∧ ∀ m, Bel m (.pp cs)) (hpan : ∀ a σ, ¬ E.pan a σ)
    (hval : ∀ (j : Nat) t v, fn.params[j]? = some t → args[j]? = some v → Value.okWide E.P W .any base t v)
    (hW : DataW.Whole enc E.P fn.params.toList s.vars false W args.toList ds gs before)
    (main : ∀ as, RdAll E.P n fn.params.toList as → blkAll as ≤ BL ds → ACalls E f as σ0 fun r _ => r = .c (.bool true)) :
    Calls E.P f args W fun e W' => ∃ v, e = .returned v ∧ s.post enc E.P fn false true false false W args v W' := by
  have hW' := hW
  obtain ⟨p, q, hA, hV, rfl, hfz, hnd⟩ := hW
  obtain ⟨as, ha, hv, hb⟩ := rdAll_of (enc := enc) (P := E.P) (w := W) hB (Γ0_owns W.heap.size) (base := base) fn.params.toList args.toList ds p hp hA fun j t v ht hv => hval j t v (by simpa using ht) (by simpa using hv)
  refine (main as ha hb (Γ0 W.heap.size) W args (R.empty hg) hv).mono fun e W' => ?_
  rintro (⟨v, rfl, Γ', a, σ', hx, hr, hvr, rfl⟩ | ⟨v, rfl, Γ', a, σ', _, _, _, hp⟩)
  rotate_left
  · exact absurd hp (hpan _ _)
  have hbool : v = .bool true := by cases hvr; rfl
  subst hbool
  have hbl := hx.below
  rw [hvars] at hV
  cases gs with
  | cons g gs => simp [DataW.TrodVars] at hV
  | nil =>
    have hq : q = [] := by simpa [DataW.TrodVars] using hV
    subst hq
    have hlt : ∀ x ∈ p, x.block < W.heap.size := fun x hx => hW'.lt x (by simp [hx])
    have hs := hs ds (trodAll_length _ _ _ _ hA)
    have e0 : ds ++ [] = ds := List.append_nil ds
    rw [← e0] at hs
    refine ⟨_, rfl, ds, [], _, [], p, [], hW', ?_, ?_, ?_, hbl.frame _, fun h => by cases h⟩
    · rw [hs.1, hrt]
      exact trodAll_cons_mk (shut_bool htb true) trodAll_mk0
    · rw [hs.2.1, e0]
      exact trodAll_below hl hbl _ _ _ _ hrd hA hlt
    · rw [hs.2.2, hvars]; rfl
end
end Go.AW
namespace Go.AW
open Go
/-- A laid variable, as the row's list has it. -/
theorem glob_of_laid {P : Program} {W : World} {B : DataW Unit → Nat} {BL : List (DataW Unit) → Nat} (hB : BulkOk B BL) {Γ : Ctx} (hΓ : ∀ b, ¬ Γ.owns b) {n : Nat} {t : TypeId} {g : Nat} {name : String} {d : DataW Unit} (hg : P.globalNamed name = some g)
    (hty : (P.globals[g]?).map (·.type) = some t) (hp : plainB P n t = true) : ∀ (laid : List (String × DataW Unit)) (ps : List MemPlace), DataW.LaidVars P W laid ps → (name, d) ∈ laid → GR Γ W (avOf d).cells g
  | [], _, _, hm => by cases hm
  | (name', d') :: rest, ps, h, hm => by
    obtain ⟨g', t', cs, fuel, p, q, hg', ht', hvar, hd, hrest, _⟩ := h
    rcases List.mem_cons.1 hm with e | hm
    · obtain ⟨rfl, rfl⟩ := Prod.mk.inj e
      obtain rfl := Option.some.inj (hg.symm.trans hg')
      obtain rfl := Option.some.inj (hty.symm.trans ht')
      obtain ⟨a, _, hc, _, rfl⟩ := rd_of_trod hB hΓ fuel n t _ d p hp hd
      have hcell : ∀ (j : Nat) (u : Value), cs[j]? = some u → W.cell? ⟨g, j, none⟩ = some u := fun j u hu => World.var?_cell hg hvar j ▸ hu
      have hlt : g < W.heap.size := by
        unfold World.var? at hvar
        rw [hg] at hvar
        simp only [Option.bind_some] at hvar
        cases hh : W.heap[g]? with
        | none => rw [hh] at hvar; cases hvar
        | some o => exact (Array.getElem?_eq_some_iff.1 hh).1
      have hat : ∀ (j : Nat) (x : AV), (avOf d).cells[j]? = some x → ∃ u, cs[j]? = some u ∧ u.oneCell' = true ∧ VR Γ W x u := fun j x hx => by
        have hj := (List.getElem?_eq_some_iff.1 hx).1
        have hj' : j < cs.toList.length := by rw [hc.1]; exact hj
        have hu := List.getElem?_eq_getElem hj'
        exact ⟨_, by rw [← Array.getElem?_toList]; exact hu, hc.2.1 _ (List.getElem_mem _), hc.2.2 j x _ hx hu⟩
      have hblk : ∃ (xs : Array Value) (t : TypeId) (fr : Nat × Nat), W.heap[g]? = some (.cells xs t fr) ∧ xs.size = (avOf d).cells.length := by
        unfold World.var? at hvar
        rw [hg] at hvar
        simp only [Option.bind_some] at hvar
        split at hvar
        · rename_i xs tt fr hh
          cases hvar
          exact ⟨_, _, _, hh, by rw [← hc.1]; simp⟩
        · cases hvar
      refine ⟨.pp _ g 0 (fun j => (cs[j]?).getD Go.undef) hlt ?_ ?_ ?_, hΓ g, hblk⟩
      · intro j x hx
        obtain ⟨u, h1, _, _⟩ := hat j x hx
        exact ⟨by rw [Nat.zero_add, hcell j u h1, h1]; rfl, Ctx.fixd_of (hΓ g)⟩
      · intro j x hx
        obtain ⟨u, h1, h2, _⟩ := hat j x hx
        rw [h1]; exact h2
      · intro j x hx
        obtain ⟨u, h1, _, h3⟩ := hat j x hx
        rw [h1]; exact h3
    · exact glob_of_laid hB hΓ hg hty hp rest q hrest hm
end Go.AW
end
