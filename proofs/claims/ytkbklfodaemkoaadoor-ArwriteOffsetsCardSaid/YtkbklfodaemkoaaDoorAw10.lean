/- Lists of operations, code, loops, what may be forgotten, and the contract of a function out of its text. No condition. -/
import Derived.Test.YtkbklfodaemkoaaDoorAw9
set_option linter.unusedVariables false
set_option linter.unusedSimpArgs false
set_option linter.unnecessarySimpa false
namespace Go.AW
open Go

/-! ### A list of operations -/
def aput (N : Nat) (f : Nat → AV) (dst : Option Tmp) (a : AV) (K : (Nat → AV) → Prop) : Prop :=
  match dst with
  | none => K f
  | some d => d < N ∧ K (upd f d a)

def aGuard (ops : Array Oper) (f : Nat → AV) (o : Oper) : Option Bool :=
  match o.guard with
  | none => some true
  | some (j, want) => match (ops[j]?).bind (·.dst) with
    | some d => match f d with
      | .c (.bool b) => some (b == want)
      | .tup _ => some false
      | _ => none
    | none => none

def aops (E : Env) (ow : List Nat) (N : Nat) (ops : Array Oper) : List Oper → (Nat → AV) → Store → ((Nat → AV) → Store → Prop) → Prop
  | [], f, σ, K => K f σ
  | o :: l, f, σ, K => match aGuard ops f o with
    | some g => (g = true → opK E ow o f σ fun a σ' => aput N f o.dst a fun f' => aops E ow N ops l f' σ' K) ∧ (g = false → aput N f o.dst (.tup []) fun f' => aops E ow N ops l f' σ K)
    | none => False

theorem aput_ok {N : Nat} {Γ : Ctx} {w : World} {f : Nat → AV} {a : Act} {dst : Option Tmp} {x : AV} {v : Value} {K : (Nat → AV) → Prop} (ht : TR N Γ w f a.tmps) (hv : VR Γ w x v) (h : aput N f dst x K) :
    ∃ f', TR N Γ w f' (a.put dst v).tmps ∧ K f' ∧ (a.put dst v).defers = a.defers := by
  unfold aput at h
  split at h
  · exact ⟨f, ht, h, rfl⟩
  · exact ⟨_, ht.upd h.1 hv, h.2, rfl⟩

theorem aGuard_ok {N : Nat} {Γ : Ctx} {w : World} {f : Nat → AV} {a : Act} {ops : Array Oper} {o : Oper} {b : Bool} (ht : TR N Γ w f a.tmps) (h : aGuard ops f o = some b) : Region.wanted o (yielded ops a.tmps) = b := by
  unfold aGuard at h
  unfold Region.wanted
  split at h
  · rename_i hg; rw [hg]; cases h; rfl
  · rename_i j want hg
    rw [hg]
    simp only
    split at h
    · rename_i d hd
      split at h
      · rename_i t hf
        cases h
        have hlt : d < N := by
          rcases Nat.lt_or_ge d N with h' | h'
          · exact h'
          · rw [ht.far d h'] at hf; cases hf
        have hv := ht.rel d hlt
        rw [hf] at hv
        have hg' : a.tmps.getD d Go.undef = .bool t := by
          generalize a.tmps.getD d Go.undef = v at hv
          cases hv; rfl
        have hsz := ht.size
        have hget : a.tmps[d]? = some (.bool t) := by
          have h1 : d < a.tmps.size := by rw [hsz]; exact hlt
          rw [Array.getD_eq_getD_getElem?, Array.getElem?_eq_getElem h1] at hg'
          rw [Array.getElem?_eq_getElem h1]
          simpa using hg'
        unfold yielded
        rw [hd]
        simp only [Option.bind_some, hget]
        cases t <;> cases want <;> rfl
      · rename_i vs hf
        cases h
        have hlt : d < N := by
          rcases Nat.lt_or_ge d N with h' | h'
          · exact h'
          · rw [ht.far d h'] at hf; cases hf
        have hv := ht.rel d hlt
        rw [hf] at hv
        have hg' : ∃ xs, a.tmps.getD d Go.undef = .tuple xs := by
          generalize a.tmps.getD d Go.undef = v at hv
          cases hv; exact ⟨_, rfl⟩
        obtain ⟨xs, hg'⟩ := hg'
        have hsz := ht.size
        have hget : a.tmps[d]? = some (.tuple xs) := by
          have h1 : d < a.tmps.size := by rw [hsz]; exact hlt
          rw [Array.getD_eq_getD_getElem?, Array.getElem?_eq_getElem h1] at hg'
          rw [Array.getElem?_eq_getElem h1]
          simpa using hg'
        unfold yielded
        rw [hd]
        simp only [Option.bind_some, hget]
        rfl
      · cases h
    · cases h

/-! ### The marks that ranges over functions leave -/
def mark (D : Nat) : Deferred := { target := .collected D, args := #[] }
/-- The deferred calls are these, behind marks of empty blocks that were made since the function began. -/
def Marks (w : World) (ds0 : List Deferred × Nat) (ds : List Deferred) : Prop := ds0.2 ≤ w.heap.size ∧ ∃ ms : List Nat, ds = ms.map mark ++ ds0.1 ∧ ms.Nodup ∧ ∀ D ∈ ms, ds0.2 ≤ D ∧ w.heap[D]? = some (.deferred (some []))
theorem Marks.refl (w : World) (ds : List Deferred) : Marks w (ds, w.heap.size) ds := ⟨Nat.le_refl _, [], rfl, by simp, by simp⟩
/-- What the store owns is cells, a map, a loop's record or an iterator. -/
theorem R.owns_obj {E : Env} {Γ : Ctx} {σ : Store} {w : World} (h : R E Γ σ w) {b : Nat} (ho : Γ.owns b) : ∃ o, w.heap[b]? = some o ∧ ∀ x, o ≠ .deferred x := by
  obtain ⟨i, l, hl, hb⟩ := ho
  have hd := h.dom i
  rw [hl] at hd
  obtain ⟨o, ho⟩ := Option.isSome_iff_exists.1 hd.symm
  have hr := h.objs i o l ho hl
  cases o with
  | arr T g es =>
    simp only [ObjRel, hb] at hr
    obtain ⟨_, _, _, _, _, xs, fr, hx, _⟩ := hr
    exact ⟨_, hx, by simp⟩
  | map ents born clock =>
    obtain ⟨_, b', es, hb', hx, _⟩ := hr
    obtain rfl : b' = b := by rw [hb'] at hb; exact Option.some.inj hb
    exact ⟨_, hx, by simp⟩
  | log T n =>
    simp only [ObjRel, hb] at hr
    obtain ⟨_, _, _, _, xs, fr, hx, _⟩ := hr
    exact ⟨_, hx, by simp⟩
  | lp b' L =>
    obtain ⟨_, hb', hx⟩ := hr
    obtain rfl : b' = b := by rw [hb'] at hb; exact Option.some.inj hb
    exact ⟨_, hx, by simp⟩
  | it o =>
    obtain ⟨_, b', hb', hx, hw⟩ := hr
    obtain rfl : b' = b := by rw [hb'] at hb; exact Option.some.inj hb
    exact ⟨_, hx, by rintro x rfl; simp [itOk] at hw⟩
  | mi m since seen last =>
    obtain ⟨_, b', bm, hb', hx, _⟩ := hr
    obtain rfl : b' = b := by rw [hb'] at hb; exact Option.some.inj hb
    exact ⟨_, hx, by simp⟩
theorem R.mark_stays {E : Env} {n : Nat} {Γ Γ' : Ctx} {σ : Store} {w w' : World} (hr : R E Γ σ w) (hx : ExtN n Γ w Γ' w') {D : Nat} {x : Option (List Deferred)} (h : w.heap[D]? = some (.deferred x)) : w'.heap[D]? = some (.deferred x) := by
  have hlt := (Array.getElem?_eq_some_iff.1 h).1
  have hno : ¬ Γ.owns D := fun ho => by
    obtain ⟨o, h1, h2⟩ := hr.owns_obj ho
    rw [h] at h1; cases h1; exact h2 _ rfl
  rcases (hx.sealed D hlt hno).1 with e | ⟨_, xs, t, fr, fr', e, _⟩
  · rw [e]; exact h
  · rw [h] at e; cases e
theorem Marks.ext {E : Env} {n : Nat} {Γ Γ' : Ctx} {σ : Store} {w w' : World} {ds0 : List Deferred × Nat} {ds : List Deferred} (h : Marks w ds0 ds) (hr : R E Γ σ w) (hx : ExtN n Γ w Γ' w') : Marks w' ds0 ds := by
  obtain ⟨h0, ms, h1, h2, h3⟩ := h
  exact ⟨Nat.le_trans h0 hx.size, ms, h1, h2, fun D hD => ⟨(h3 D hD).1, hr.mark_stays hx (h3 D hD).2⟩⟩

/-! ### Operations, in a function's own frame or in a round's -/
def PanRes (E : Env) (n : Nat) (Γ0 : Ctx) (w0 : World) (v : Value) (w : World) : Prop := ∃ Γ a σ, ExtN n Γ0 w0 Γ w ∧ R E Γ σ w ∧ VR Γ w a v ∧ E.pan a σ
theorem PanRes.of_res {E : Env} {n : Nat} {Γ0 Γ : Ctx} {w0 w w' : World} {v : Value} (hx : ExtN n Γ0 w0 Γ w) (h : Res E Γ w E.pan v w') : PanRes E n Γ0 w0 v w' := by
  obtain ⟨Γ', a, σ', h1, h2, h3, h4⟩ := h
  exact ⟨Γ', a, σ', hx.trans (h1.mono hx.le'), h2, h3, h4⟩
theorem Res.ext {E : Env} {Γ : Ctx} {w w' : World} {K : AV → Store → Prop} {v : Value} (h : Res E Γ w K v w') : ∃ Γ', ExtN Γ.next Γ w Γ' w' := by
  obtain ⟨Γ', a, σ', h1, _⟩ := h
  exact ⟨Γ', h1⟩
theorem opK_defer {E : Env} {ow : List Nat} {o : Oper} {f : Nat → AV} {σ : Store} {K : AV → Store → Prop} (h : opK E ow o f σ K) : ∀ c, o.op ≠ .defer c := by
  intro c hc
  obtain ⟨dst, op, ty, pos, after, guard⟩ := o
  simp only at hc
  subst hc
  simp [opK, opX] at h
/-- What an operation's condition gives, as the machine wants it. -/
theorem Up.upon {E : Env} {Γ : Ctx} {w : World} {K : AV → Store → Prop} {rd : Option Nat} {o : Oper} {a : Act} {next : Act → World → Prop} {Q : Exit → Act → World → Prop} (hup : Up E Γ w K ((execOp a.eval o).run E.P w)) (hnd : ∀ c, o.op ≠ .defer c)
    (hstep : ∀ v w', Res E Γ w K v w' → next (a.put o.dst v) w') (hpan : ∀ v w', Res E Γ w E.pan v w' → Q (.panic [{ v := v, recovered := false }]) a w') : o.wpIn (wideR rd) 0 E.P a w next Q := by
  refine ⟨fun _ _ => trivial, ?_⟩
  rw [Oper.semAt_eq _ _ _ hnd]
  generalize (execOp a.eval o).run E.P w = r at hup
  unfold Up at hup
  have hends : ∀ e w'', Ends E Γ w K e w'' → (match e with
      | .returned v => next (a.put o.dst v) w''
      | .panicked chain => Q (.panic chain) a w''
      | .outgrown => LetsOut Q) := by
    rintro e w'' (⟨v, rfl, h⟩ | ⟨v, rfl, h⟩)
    · exact hstep v w'' h
    · exact hpan v w'' h
  split at hup
  · exact hstep _ _ hup
  · exact hstep _ _ hup
  · refine ⟨fun h => (by cases h), callsIn_rd (rd := rd) (n := 0) (callsIn_wide.2 (hup.mono fun e w'' he => ?_))⟩
    have := hends e w'' he
    cases e <;> exact this
  · refine ⟨fun h => (by cases h), roundIn_rd (rd := rd) (hup.mono fun e w'' he => ?_)⟩
    have := hends e w'' he
    cases e <;> exact this
  · exact hpan _ _ hup
  · exact hup.elim

theorem aops_ok {E : Env} {ow : List Nat} {N n : Nat} {ops : Array Oper} {Γ0 : Ctx} {w0 : World} {rd : Option Nat} {ds0 : List Deferred × Nat} {Q : Exit → Act → World → Prop} {K : (Nat → AV) → Store → Prop}
    (hQ : ∀ Γ w f σ a, ExtN n Γ0 w0 Γ w → R E Γ σ w → TR N Γ w f a.tmps → Marks w ds0 a.defers → K f σ → Q .normal a w)
    (hP : ∀ v w a, PanRes E n Γ0 w0 v w → Marks w ds0 a.defers → Q (.panic [{ v := v, recovered := false }]) a w) :
    ∀ (l : List Oper) (f : Nat → AV) (σ : Store) (Γ : Ctx) (w : World) (a : Act), ExtN n Γ0 w0 Γ w → R E Γ σ w → TR N Γ w f a.tmps → Marks w ds0 a.defers → aops E ow N ops l f σ K → wpListIn (wideR rd) 0 E.P ops Q l a w := by
  intro l
  induction l with
  | nil => intro f σ Γ w a hx hr ht hd h; exact hQ Γ w f σ a hx hr ht hd h
  | cons o l ih =>
    intro f σ Γ w a hx hr ht hd h
    unfold aops at h
    unfold wpListIn
    split at h
    · rename_i g hg
      obtain ⟨h1, h2⟩ := h
      cases g with
      | true =>
        have h := h1 rfl
        rw [if_pos (aGuard_ok ht hg)]
        refine Up.upon (opK_ok (ρ := a.eval) hr (fun x _ => ht.eval hr x) (fun _ => rfl) h) (opK_defer h) ?_ ?_
        · rintro v w' ⟨Γ', x, σ', h1, h2, h3, h4⟩
          obtain ⟨f', ht', hk, hd'⟩ := aput_ok (ht.ext h1) h3 h4
          exact ih f' σ' Γ' w' _ (hx.trans (h1.mono hx.le')) h2 ht' (by rw [hd']; exact hd.ext hr h1) hk
        · intro v w' h
          obtain ⟨Γ', h1⟩ := h.ext
          exact hP v w' a (.of_res hx h) (hd.ext hr h1)
      | false =>
        have h := h2 rfl
        rw [if_neg (by rw [aGuard_ok ht hg]; simp)]
        obtain ⟨f', ht', hk, hd'⟩ := aput_ok ht (VR.undef_ Γ w) h
        exact ⟨fun _ _ => trivial, ih f' σ Γ w _ hx hr ht' (by rw [hd']; exact hd) hk⟩
    · exact h.elim

/-! ### Code -/
inductive AExit where
  | normal | exit (id : Nat) | goto (l : Nat) | ret

def ExRel : AExit → Exit → Prop
  | .normal, .normal => True
  | .exit i, .exit j => i = j
  | .goto i, .goto j => i = j
  | .ret, .ret => True
  | _, _ => False

/-- What holds behind a piece of code; or it panics with what the environment allows. -/
def Post (E : Env) (n N : Nat) (Γ0 : Ctx) (w0 : World) (ds0 : List Deferred × Nat) (Q : AExit → (Nat → AV) → Store → Prop) (ex : Exit) (a : Act) (w : World) : Prop :=
  (∃ Γ f σ x, ExRel x ex ∧ ExtN n Γ0 w0 Γ w ∧ R E Γ σ w ∧ TR N Γ w f a.tmps ∧ Marks w ds0 a.defers ∧ Q x f σ) ∨
  (∃ v, ex = .panic [{ v := v, recovered := false }] ∧ PanRes E n Γ0 w0 v w ∧ Marks w ds0 a.defers)

theorem Post.trans {E : Env} {n N : Nat} {Γ0 Γ1 : Ctx} {w0 w1 : World} {ds0 : List Deferred × Nat} {Q : AExit → (Nat → AV) → Store → Prop} {ex : Exit} {a : Act} {w : World} (hx : ExtN n Γ0 w0 Γ1 w1) (h : Post E n N Γ1 w1 ds0 Q ex a w) : Post E n N Γ0 w0 ds0 Q ex a w := by
  rcases h with ⟨Γ, f, σ, x, h1, h2, h3⟩ | ⟨v, h1, ⟨Γ, b, σ, h2, h3⟩, h4⟩
  · exact .inl ⟨Γ, f, σ, x, h1, hx.trans h2, h3⟩
  · exact .inr ⟨v, h1, ⟨Γ, b, σ, hx.trans h2, h3⟩, h4⟩

def AW (E : Env) (n N : Nat) (c : Code) (f : Nat → AV) (σ : Store) (Q : AExit → (Nat → AV) → Store → Prop) : Prop :=
  ∀ (rd : Option Nat) (ds0 : List Deferred × Nat) (Γ : Ctx) (w : World) (a : Act), n ≤ Γ.next → R E Γ σ w → TR N Γ w f a.tmps → Marks w ds0 a.defers → c.wpIn (wideR rd) 0 E.P (Post E n N Γ w ds0 Q) a w

def AThen (next : (Nat → AV) → Store → Prop) (Q : AExit → (Nat → AV) → Store → Prop) : AExit → (Nat → AV) → Store → Prop
  | .normal, f, σ => next f σ
  | e, f, σ => Q e f σ

def ABlock (id : Nat) (Q : AExit → (Nat → AV) → Store → Prop) : AExit → (Nat → AV) → Store → Prop
  | .exit id', f, σ => if id' = id then Q .normal f σ else Q (.exit id') f σ
  | e, f, σ => Q e f σ

section
variable {E : Env} {n N : Nat} {f : Nat → AV} {σ : Store} {Q : AExit → (Nat → AV) → Store → Prop}

theorem Post.mono {Γ : Ctx} {w0 : World} {ds0 : List Deferred × Nat} {Q' : AExit → (Nat → AV) → Store → Prop} {ex : Exit} {a : Act} {w : World} (h : Post E n N Γ w0 ds0 Q ex a w) (hq : ∀ e f σ, Q e f σ → Q' e f σ) : Post E n N Γ w0 ds0 Q' ex a w := by
  rcases h with ⟨Γ', f', σ', x, h1, h2, h3, h4, h5, h6⟩ | h
  · exact .inl ⟨Γ', f', σ', x, h1, h2, h3, h4, h5, hq _ _ _ h6⟩
  · exact .inr h

theorem AW.mono {c : Code} {Q' : AExit → (Nat → AV) → Store → Prop} (h : AW E n N c f σ Q) (hq : ∀ e f σ, Q e f σ → Q' e f σ) : AW E n N c f σ Q' :=
  fun rd ds0 Γ w a hn hr ht hd => wpIn_mono (h rd ds0 Γ w a hn hr ht hd) fun _ _ _ hp => hp.mono hq

theorem Post.here {Γ : Ctx} {w : World} {ds0 : List Deferred × Nat} {a : Act} {x : AExit} {ex : Exit} (hn : n ≤ Γ.next) (hr : R E Γ σ w) (ht : TR N Γ w f a.tmps) (hd : Marks w ds0 a.defers) (hx : ExRel x ex) (hq : Q x f σ) : Post E n N Γ w ds0 Q ex a w :=
  .inl ⟨Γ, f, σ, x, hx, ExtN.refl Γ w hn, hr, ht, hd, hq⟩

theorem AW.skip (h : Q .normal f σ) : AW E n N .skip f σ Q := fun rd ds0 Γ w a hn hr ht hd => wpIn_skip (Post.here hn hr ht hd (x := .normal) trivial h)
theorem AW.label {l : Nat} (h : Q .normal f σ) : AW E n N (.label l) f σ Q := fun rd ds0 Γ w a hn hr ht hd => wpIn_label (Post.here hn hr ht hd (x := .normal) trivial h)
theorem AW.exit {i : Nat} (h : Q (.exit i) f σ) : AW E n N (.exit i) f σ Q := fun rd ds0 Γ w a hn hr ht hd => wpIn_exit (Post.here hn hr ht hd (x := .exit i) rfl h)
theorem AW.ret (h : Q .ret f σ) : AW E n N .ret f σ Q := fun rd ds0 Γ w a hn hr ht hd => wpIn_ret (Post.here hn hr ht hd (x := .ret) trivial h)

theorem AW.seq {c d : Code} (h : AW E n N c f σ (AThen (fun f σ => AW E n N d f σ Q) Q)) : AW E n N (.seq c d) f σ Q := by
  intro rd ds0 Γ w a hn hr ht hd
  refine wpIn_seq (wpIn_mono (h rd ds0 Γ w a hn hr ht hd) ?_)
  rintro e a' w' (⟨Γ', f', σ', x, h1, h2, h3, h4, h5, h6⟩ | h)
  · cases e with
    | normal =>
      cases x <;> first | exact h1.elim | skip
      exact wpIn_mono (h6 rd ds0 Γ' w' a' h2.le' h3 h4 h5) fun e a w hp => Post.trans h2 hp
    | exit i => cases x <;> first | exact h1.elim | exact .inl ⟨Γ', f', σ', _, h1, h2, h3, h4, h5, h6⟩
    | goto i => cases x <;> first | exact h1.elim | exact .inl ⟨Γ', f', σ', _, h1, h2, h3, h4, h5, h6⟩
    | ret => cases x <;> first | exact h1.elim | exact .inl ⟨Γ', f', σ', _, h1, h2, h3, h4, h5, h6⟩
    | panic ch => cases x <;> exact h1.elim
    | outgrown => cases x <;> exact h1.elim
  · obtain ⟨v, rfl, h2⟩ := h
    exact .inr ⟨v, rfl, h2⟩

/-- The same, what follows behind a name. -/
theorem AW.seq_k {c d : Code} (h : ∀ K : (Nat → AV) → Store → Prop, (∀ f σ, AW E n N d f σ Q → K f σ) → AW E n N c f σ (AThen K Q)) : AW E n N (.seq c d) f σ Q := AW.seq (h _ fun _ _ h => h)

theorem AW.block {i : Nat} {c : Code} (h : AW E n N c f σ (ABlock i Q)) : AW E n N (.block i c) f σ Q := by
  intro rd ds0 Γ w a hn hr ht hd
  refine wpIn_block (wpIn_mono (h rd ds0 Γ w a hn hr ht hd) ?_)
  rintro e a' w' (⟨Γ', f', σ', x, h1, h2, h3, h4, h5, h6⟩ | h)
  · cases e with
    | exit j =>
      cases x <;> first | exact h1.elim | skip
      cases h1
      simp only [Exit.inBlock, ABlock] at h6 ⊢
      split
      · rw [if_pos (by assumption)] at h6; exact .inl ⟨Γ', f', σ', .normal, trivial, h2, h3, h4, h5, h6⟩
      · rw [if_neg (by assumption)] at h6; exact .inl ⟨Γ', f', σ', .exit _, rfl, h2, h3, h4, h5, h6⟩
    | normal => cases x <;> first | exact h1.elim | exact .inl ⟨Γ', f', σ', _, h1, h2, h3, h4, h5, h6⟩
    | goto i => cases x <;> first | exact h1.elim | exact .inl ⟨Γ', f', σ', _, h1, h2, h3, h4, h5, h6⟩
    | ret => cases x <;> first | exact h1.elim | exact .inl ⟨Γ', f', σ', _, h1, h2, h3, h4, h5, h6⟩
    | panic ch => cases x <;> exact h1.elim
    | outgrown => cases x <;> exact h1.elim
  · obtain ⟨v, rfl, h2⟩ := h
    exact .inr ⟨v, rfl, h2⟩

theorem AW.cond {o : Operand} {c d : Code} {b : Bool} (hb : aeval E.G f o = .c (.bool b)) (ht : b = true → AW E n N c f σ Q) (hf : b = false → AW E n N d f σ Q) : AW E n N (.cond o c d) f σ Q := by
  intro rd ds0 Γ w a hn hr ht' hd
  have hv := ht'.eval hr o
  rw [hb] at hv
  have he : a.eval o = .bool b := by generalize a.eval o = v at hv; cases hv; rfl
  cases b with
  | true => exact wpIn_cond_true he (ht rfl rd ds0 Γ w a hn hr ht' hd)
  | false => exact wpIn_cond_false he (hf rfl rd ds0 Γ w a hn hr ht' hd)

theorem AW.region {ow : List Nat} {id : Nat} {l : List Oper} (h : aops E ow N l.toArray l f σ (fun f σ => Q .normal f σ)) : AW E n N (.region id l.toArray false) f σ Q := by
  intro rd ds0 Γ w a hn hr ht hd
  refine wpIn_region_lit (aops_ok (E := E) (ow := ow) (N := N) (n := n) (Γ0 := Γ) (w0 := w) (rd := rd) (ds0 := ds0) ?_ ?_ l f σ Γ w a (ExtN.refl Γ w hn) hr ht hd h)
  · intro Γ' w' f' σ' a' hx hr' ht' hd' hk
    exact .inl ⟨Γ', f', σ', .normal, trivial, hx, hr', ht', hd', hk⟩
  · intro v w' a' hp hm
    exact .inr ⟨v, rfl, hp, hm⟩

/-! ### What may be forgotten -/
/-- An abstract value, with what the store knows of it, written down otherwise: an object that is dropped from the store is written no more. -/
inductive SR (σ σ2 : Store) : AV → AV → Prop
  | refl (a : AV) : SR σ σ2 a a
  | junk (a : AV) : SR σ σ2 a .junk
  | nl : SR σ σ2 .nl (.ps [])
  | rs (i g off len : Nat) (T : TypeId) (es es' : List AV) (hi : σ.get i = some (.arr T g es)) (h2 : σ2.get i = none) (hle : off + len ≤ es.length) (hl : es'.length = len)
      (hcl : ∀ (k : Nat) (a b : AV), es[off + k]? = some a → es'[k]? = some b → a.cells.length = b.cells.length)
      (h : ∀ (k : Nat) (a b : AV) (j : Nat) (x y : AV), es[off + k]? = some a → es'[k]? = some b → a.cells[j]? = some x → b.cells[j]? = some y → SR σ σ2 x y) : SR σ σ2 (.rs i g off len) (.ps es')
  | rc (i g off len cap : Nat) (b : AV) (h : SR σ σ2 (.rs i g off len) b) : SR σ σ2 (.rc i g off len cap) b
  | rp (i g k off : Nat) (T : TypeId) (es : List AV) (e : AV) (cs' : List AV) (hi : σ.get i = some (.arr T g es)) (h2 : σ2.get i = none) (hk : es[k]? = some e) (hl : cs'.length = (e.cells.drop off).length)
      (h : ∀ (j : Nat) (x y : AV), (e.cells.drop off)[j]? = some x → cs'[j]? = some y → SR σ σ2 x y) : SR σ σ2 (.rp i g k off) (.pp cs')
  | agg (cs cs' : List AV) (hl : cs.length = cs'.length) (h : ∀ (j : Nat) (x y : AV), cs[j]? = some x → cs'[j]? = some y → SR σ σ2 x y) : SR σ σ2 (.agg cs) (.agg cs')
  | tup (cs cs' : List AV) (hl : cs.length = cs'.length) (h : ∀ (j : Nat) (x y : AV), cs[j]? = some x → cs'[j]? = some y → SR σ σ2 x y) : SR σ σ2 (.tup cs) (.tup cs')
  | ps (es es' : List AV) (hl : es.length = es'.length) (hcl : ∀ (k : Nat) (a b : AV), es[k]? = some a → es'[k]? = some b → a.cells.length = b.cells.length)
      (h : ∀ (k : Nat) (a b : AV) (j : Nat) (x y : AV), es[k]? = some a → es'[k]? = some b → a.cells[j]? = some x → b.cells[j]? = some y → SR σ σ2 x y) :
      SR σ σ2 (.ps es) (.ps es')
  | ifc (t : TypeId) (a a' : AV) (h : SR σ σ2 a a') : SR σ σ2 (.ifc t a) (.ifc t a')
  | lg (i : Nat) (es es' : List AV) (h : SR σ σ2 (.ps es) (.ps es')) : SR σ σ2 (.lg i es) (.ps es')
  | lgl (i : Nat) (es es' : List AV) (hl : es.length = es'.length) (hcl : ∀ (k : Nat) (a b : AV), es[k]? = some a → es'[k]? = some b → a.cells.length = b.cells.length) (h : SR σ σ2 (.ps es) (.ps es')) : SR σ σ2 (.lg i es) (.lg i es')

/-- The store with some objects less. -/
def Store.sub (σ2 σ : Store) : Prop := σ2.next = σ.next ∧ ∀ i o, σ2.get i = some o → σ.get i = some o

def Ctx.only (Γ : Ctx) (σ2 : Store) : Ctx := ⟨fun i => if (σ2.get i).isSome then Γ.get i else none, Γ.next, Γ.base⟩

theorem Ctx.only_some {Γ : Ctx} {σ2 : Store} {i : Nat} {l : Loc} (h : (Γ.only σ2).get i = some l) : Γ.get i = some l ∧ (σ2.get i).isSome = true := by
  unfold Ctx.only at h
  simp only at h
  split at h
  · rename_i hs; exact ⟨h, hs⟩
  · cases h

theorem Ctx.only_ext {m : Nat} (Γ : Ctx) (σ2 : Store) (w : World) (hm : m ≤ Γ.next) : ExtN m Γ w (Γ.only σ2) w := by
  refine ⟨rfl, rfl, rfl, Nat.le_refl _, fun b _ ho => ⟨.inl rfl, fun ⟨i, l, hi, hb⟩ => ho ⟨i, l, (Ctx.only_some hi).1, hb⟩⟩, fun b k _ hf => ⟨fun _ hv => hv, fun i l hi hb => hf i l (Ctx.only_some hi).1 hb⟩, fun i l _ hi => ⟨l, (Ctx.only_some hi).1, Nat.le_refl _, fun _ => rfl⟩, hm, hm, rfl⟩

theorem VR.only {Γ : Ctx} {σ2 : Store} {w : World} {a : AV} {v : Value} (h : VR Γ w a v) : VR (Γ.only σ2) w a v := h.ext (Ctx.only_ext Γ σ2 w (Nat.le_refl _))

/-- The block of a dropped object is owned no more. -/
theorem not_owned {E : Env} {Γ : Ctx} {σ σ2 : Store} {w : World} (hr : R E Γ σ w) {i b : Nat} {l : Loc} (hl : Γ.get i = some l) (hb : l.blk = some b) (h2 : σ2.get i = none) : ¬ (Γ.only σ2).owns b := by
  rintro ⟨j, lj, hj, hjb⟩
  obtain ⟨h1, h3⟩ := Ctx.only_some hj
  have := hr.inj j i lj l b h1 hl hjb hb
  subst this
  rw [h2] at h3; cases h3

theorem VR.sr {E : Env} {Γ : Ctx} {σ σ2 : Store} {w : World} (hr : R E Γ σ w) {a a' : AV} (hs : SR σ σ2 a a') : ∀ {v : Value}, VR Γ w a v → VR (Γ.only σ2) w a' v := by
  induction hs with
  | refl a => exact fun h => h.only
  | junk a => exact fun _ => .junk _
  | nl =>
    intro v h
    cases h with
    | nl a => exact .ps [] a 0 0 0 (fun _ _ => Go.undef) (Nat.le_refl 0) (fun h => absurd rfl h) (by intro k e j x hk; simp at hk) (by intro k e j x hk; simp at hk) (by intro k e j x hk; simp at hk)
  | rc i g off len cap b _ ih =>
    intro v h
    obtain ⟨_, _, _, hrs⟩ := rc_inv h
    exact ih hrs
  | rs i g off len T es es' hi h2 hle hl hcl hh ih =>
    intro v h
    obtain ⟨ad, cap, rfl, hin, hlc, hat⟩ := h.rs_inv
    obtain ⟨l, hl', ho, _⟩ := hr.loc hi
    simp only [ObjRel] at ho
    obtain ⟨o1, o2, o3, o4, o5, o6⟩ := ho
    have hat' := (hat l hl').2 o1
    unfold Loc.rsAt at hat'
    cases hb : l.blk with
    | none =>
      simp only [hb] at hat'
      obtain ⟨rfl, rfl, rfl⟩ := hat'
      have : es' = [] := List.eq_nil_of_length_eq_zero hl
      subst this
      exact .ps [] ad 0 0 0 (fun _ _ => Go.undef) (Nat.le_refl 0) (fun h => absurd rfl h) (by intro k e j x hk; simp at hk) (by intro k e j x hk; simp at hk) (by intro k e j x hk; simp at hk)
    | some b =>
      simp only [hb] at hat' o6
      obtain ⟨a1, a2, a3⟩ := hat'
      obtain ⟨xs, fr, q1, q2, q3, q4⟩ := o6
      subst hl
      have hel : ∀ (k : Nat) (e : AV), es'[k]? = some e → ∃ a, es[off + k]? = some a ∧ a.cells.length = e.cells.length ∧ e.cells.length = l.sz := by
        intro k e hk
        have hlt := (List.getElem?_eq_some_iff.1 hk).1
        have ha := List.getElem?_eq_getElem (l := es) (i := off + k) (by omega)
        refine ⟨_, ha, hcl k _ e ha hk, ?_⟩
        rw [← hcl k _ e ha hk]
        exact o3 _ (List.mem_of_getElem? ha)
      have hcell : ∀ (k : Nat) (e : AV) (j : Nat) (x : AV), es'[k]? = some e → e.cells[j]? = some x → xs[(off + k) * l.sz + j]? = some (xs.getD ((off + k) * l.sz + j) Go.undef) ∧ (xs.getD ((off + k) * l.sz + j) Go.undef).oneCell' = true ∧ VR (Γ.only σ2) w x (xs.getD ((off + k) * l.sz + j) Go.undef) := by
        intro k e j x hk hj
        obtain ⟨a, ha, hal, hsz⟩ := hel k e hk
        have hjl : j < a.cells.length := by rw [hal]; exact (List.getElem?_eq_some_iff.1 hj).1
        have hy := List.getElem?_eq_getElem hjl
        obtain ⟨u, u1, u2, u3⟩ := q4 (off + k) a j _ ha hy
        have : xs.getD ((off + k) * l.sz + j) Go.undef = u := by rw [Array.getD_eq_getD_getElem?, u1]; rfl
        rw [this]
        exact ⟨u1, u2, ih k a e j _ x ha hk hy hj u3⟩
      refine .ps es' ad cap b (off * l.sz) (fun k j => xs.getD ((off + k) * l.sz + j) Go.undef) hlc (fun hne => ?_) ?_ ?_ ?_
      · have hpos : 0 < es'.length := by cases es' with | nil => exact absurd rfl hne | cons _ _ => simp
        refine ⟨?_, (Array.getElem?_eq_some_iff.1 q1).1⟩
        rcases a2 with a2 | a2
        · omega
        · exact a2
      · intro k e j x hk hj
        obtain ⟨a, ha, hal, hsz⟩ := hel k e hk
        rw [hsz]
        have := (hcell k e j x hk hj).1
        refine ⟨?_, Ctx.fixd_of (not_owned hr hl' hb h2)⟩
        simp only [World.cell?, q1]
        rw [show off * l.sz + k * l.sz + j = (off + k) * l.sz + j by rw [Nat.add_mul]]
        simpa using this
      · intro k e j x hk hj; exact (hcell k e j x hk hj).2.1
      · intro k e j x hk hj; exact (hcell k e j x hk hj).2.2
  | rp i g k off T es e cs' hi h2 hk hl hh ih =>
    intro v h
    obtain ⟨l, b, hl', hb, hgen, rfl, hc⟩ := hr.rp_cells h hi hk
    have hlt : b < w.heap.size := hr.blk_lt ⟨i, l, hl', hb⟩
    refine VR.pp_of (fun _ _ => Ctx.fixd_of (not_owned hr hl' hb h2)) hlt ?_
    intro j y hy
    have hjl : j < (e.cells.drop off).length := by rw [← hl]; exact (List.getElem?_eq_some_iff.1 hy).1
    have hx := List.getElem?_eq_getElem hjl
    obtain ⟨u, u1, u2, u3⟩ := hc j _ hx
    exact ⟨u, u1, u2, ih j _ y hx hy u3⟩
  | agg cs cs' hl hh ih =>
    intro v h
    cases h with
    | agg _ xs hs h1 hv =>
      refine .agg cs' xs (by rw [← hl]; exact hs) h1 fun j y x hy hx => ?_
      have hjl : j < cs.length := by rw [hl]; exact (List.getElem?_eq_some_iff.1 hy).1
      have ha := List.getElem?_eq_getElem hjl
      exact ih j _ y ha hy (hv j _ x ha hx)
  | tup cs cs' hl hh ih =>
    intro v h
    cases h with
    | tup _ xs hs hv =>
      refine .tup cs' xs (by rw [← hl]; exact hs) fun j y x hy hx => ?_
      have hjl : j < cs.length := by rw [hl]; exact (List.getElem?_eq_some_iff.1 hy).1
      have ha := List.getElem?_eq_getElem hjl
      exact ih j _ y ha hy (hv j _ x ha hx)
  | ps es es' hl hcl hh ih =>
    intro v h
    cases h with
    | ps _ ad cap b o us hc ha hw h1 hv =>
      have hel : ∀ (k : Nat) (e : AV), es'[k]? = some e → ∃ a, es[k]? = some a ∧ a.cells.length = e.cells.length := by
        intro k e hk
        have hlt := (List.getElem?_eq_some_iff.1 hk).1
        have ha := List.getElem?_eq_getElem (l := es) (i := k) (by omega)
        exact ⟨_, ha, hcl k _ e ha hk⟩
      rw [hl]
      refine .ps es' ad cap b o us (by omega) (fun hne => ?_) ?_ ?_ ?_
      · have hne' : es ≠ [] := by intro e0; subst e0; exact hne (List.eq_nil_of_length_eq_zero hl.symm)
        exact ha hne'
      · intro k e j x hk hj
        obtain ⟨a, ha', hal⟩ := hel k e hk
        have hjl : j < a.cells.length := by rw [hal]; exact (List.getElem?_eq_some_iff.1 hj).1
        have := hw k a j _ ha' (List.getElem?_eq_getElem hjl)
        rw [hal] at this
        exact ⟨this.1, fun i l hi hb => this.2 i l (Ctx.only_some hi).1 hb⟩
      · intro k e j x hk hj
        obtain ⟨a, ha', hal⟩ := hel k e hk
        have hjl : j < a.cells.length := by rw [hal]; exact (List.getElem?_eq_some_iff.1 hj).1
        exact h1 k a j _ ha' (List.getElem?_eq_getElem hjl)
      · intro k e j x hk hj
        obtain ⟨a, ha', hal⟩ := hel k e hk
        have hjl : j < a.cells.length := by rw [hal]; exact (List.getElem?_eq_some_iff.1 hj).1
        have hy := List.getElem?_eq_getElem hjl
        exact ih k a e j _ x ha' hk hy hj (hv k a j _ ha' hy)
  | ifc t a a' _ ih =>
    intro v h
    cases h with
    | ifc _ _ _ h1 => exact .ifc t _ _ (ih h1)
  | lg i es es' _ ih =>
    intro v h
    cases h with
    | lg _ _ _ h1 _ _ => exact ih h1
  | lgl i es es' hl hcl _ ih =>
    intro v h
    cases h with
    | lg _ _ _ h1 h2 h3 =>
      refine .lg i es' v (ih h1) (by rw [← hl]; exact h2.only) fun l hgl hg e he => ?_
      obtain ⟨k, hk⟩ := List.getElem?_of_mem he
      have hkl := (List.getElem?_eq_some_iff.1 hk).1
      have hke : es[k]? = some es[k] := List.getElem?_eq_getElem (by omega)
      rw [← hcl k _ _ hke hk]
      exact h3 l (Ctx.only_some hgl).1 (by rw [hl]; exact hg) _ (List.getElem_mem _)

theorem GR.only {Γ : Ctx} {w : World} {cs : List AV} {g : Nat} {σ2 : Store} (h : GR Γ w cs g) : GR (Γ.only σ2) w cs g := ⟨h.vr.only, fun ⟨i, l, hi, hb⟩ => h.own ⟨i, l, (Ctx.only_some hi).1, hb⟩, h.blk⟩
theorem R.only {E : Env} {Γ : Ctx} {σ σ2 : Store} {w : World} (hr : R E Γ σ w) (hs : σ2.sub σ) : R E (Γ.only σ2) σ2 w := by
  obtain ⟨hn, hsub⟩ := hs
  refine ⟨by rw [hn]; exact hr.next, ?_, ?_, ?_, ?_, fun g cs hg => (hr.glob g cs hg).only, hr.gbel, hr.base, fun i o l ho hl => hr.lims i o l (hsub i o ho) (Ctx.only_some hl).1⟩
  · intro i
    unfold Ctx.only
    simp only
    split
    · rename_i h
      obtain ⟨o, ho⟩ := Option.isSome_iff_exists.1 h
      rw [hr.dom i, hsub i o ho, ho]
    · rename_i h; simpa using h
  · intro i hi
    cases ho : σ2.get i with
    | none => rfl
    | some o =>
      have := hsub i o ho
      rw [hr.bnd i (by omega)] at this; cases this
  · intro i j li lj b hi hj hib hjb
    exact hr.inj i j li lj b (Ctx.only_some hi).1 (Ctx.only_some hj).1 hib hjb
  · intro i o l ho hl
    have hr' := hr.objs i o l (hsub i o ho) (Ctx.only_some hl).1
    cases o with
    | arr T g es =>
      simp only [ObjRel] at hr' ⊢
      obtain ⟨h1, h2, h3, h4, h5, h6⟩ := hr'
      refine ⟨h1, h2, h3, h4, h5, ?_⟩
      cases hb : l.blk with
      | none => simp only [hb] at h6 ⊢; exact h6
      | some b =>
        simp only [hb] at h6 ⊢
        obtain ⟨xs, fr, q1, q2, q3, q4⟩ := h6
        refine ⟨xs, fr, q1, q2, q3, fun k e j x hk hj => ?_⟩
        obtain ⟨u, u1, u2, u3⟩ := q4 k e j x hk hj
        exact ⟨u, u1, u2, u3.only⟩
    | map ents born clock =>
      obtain ⟨h0, b, es, q1, q2, q3, q4, q5⟩ := hr'
      exact ⟨h0, b, es, q1, q2, q3, fun k e en hk hen => ⟨(q4 k e en hk hen).1, (q4 k e en hk hen).2.only⟩, q5⟩
    | log T m => exact hr'
    | lp b L => exact hr'
    | it o => exact hr'
    | mi m since seen last =>
      obtain ⟨h0, b, bm, q1, q2, q3⟩ := hr'
      exact ⟨h0, b, bm, q1, q2, q3.only⟩


theorem Bel.mono {m m' : Nat} {a : AV} (h : Bel m a) (hm : m ≤ m') : Bel m' a := by
  induction h with
  | c v => exact .c v
  | junk => exact .junk
  | nl => exact .nl
  | agg cs _ ih => exact .agg cs ih
  | tup cs _ ih => exact .tup cs ih
  | ps cs _ ih => exact .ps cs ih
  | fs l => exact .fs l
  | pp cs _ ih => exact .pp cs ih
  | rs i g o n h => exact .rs i g o n (by omega)
  | rc i g o n c h => exact .rc i g o n c (by omega)
  | lg i es h _ ih => exact .lg i es (by omega) ih
  | rp i g k o h => exact .rp i g k o (by omega)
  | mp i h => exact .mp i (by omega)
  | fn f xs ys _ _ ih ih' => exact .fn f xs ys ih ih'
  | ifc t a _ ih => exact .ifc t a ih

def ObjBel (m : Nat) : AObj → Prop
  | .arr _ _ es => ∀ e ∈ es, ∀ x ∈ e.cells, Bel m x
  | .map ents _ _ => ∀ en ∈ ents, Bel m en.2
  | .log _ _ => True
  | .lp _ _ => True
  | .it _ => True
  | .mi i _ _ _ => i < m

/-- Whatever lies in the store has a number, and names objects, below the store's next number. -/
def StoreBel (σ : Store) : Prop := ∀ i o, σ.get i = some o → i < σ.next ∧ ObjBel σ.next o

theorem VR.bel {Γ : Ctx} {w : World} {a : AV} {v : Value} (h : VR Γ w a v) (hn : ∀ x, Bel Γ.next x → True) : True := trivial

def Ctx.lower (Γ : Ctx) (m : Nat) : Ctx := ⟨fun i => if i < m then Γ.get i else none, m, Γ.base⟩

theorem Ctx.lower_some {Γ : Ctx} {m i : Nat} {l : Loc} (h : (Γ.lower m).get i = some l) : Γ.get i = some l ∧ i < m := by
  unfold Ctx.lower at h
  simp only at h
  split at h
  · rename_i hs; exact ⟨h, hs⟩
  · cases h

theorem Ctx.lower_owns {Γ : Ctx} {m b : Nat} (h : (Γ.lower m).owns b) : Γ.owns b := by
  obtain ⟨i, l, hi, hb⟩ := h
  exact ⟨i, l, (Ctx.lower_some hi).1, hb⟩

theorem Ctx.lower_ext {n m : Nat} (Γ : Ctx) (w : World) (hn : n ≤ m) (hm : m ≤ Γ.next) : ExtN n Γ w (Γ.lower m) w :=
  ⟨rfl, rfl, rfl, Nat.le_refl _, fun b _ ho => ⟨.inl rfl, fun h => ho (Ctx.lower_owns h)⟩, fun b k _ hf => ⟨fun _ hv => hv, fun i l hi hb => hf i l (Ctx.lower_some hi).1 hb⟩, fun i l _ hi => ⟨l, (Ctx.lower_some hi).1, Nat.le_refl _, fun _ => rfl⟩, Nat.le_trans hn hm, hn, rfl⟩

theorem VR.lower {Γ : Ctx} {w : World} {a : AV} {v : Value} {m : Nat} (h : VR Γ w a v) : Bel m a → VR (Γ.lower m) w a v := by
  induction h with
  | c v h => exact fun _ => .c v h
  | junk v => exact fun _ => .junk v
  | nl a => exact fun _ => .nl a
  | agg cs xs hs h1 _ ih =>
    intro hb
    cases hb with
    | agg _ hb => exact .agg cs xs hs h1 fun j a x ha hx => ih j a x ha hx (hb a (List.mem_of_getElem? ha))
  | tup cs xs hs _ ih =>
    intro hb
    cases hb with
    | tup _ hb => exact .tup cs xs hs fun j a x ha hx => ih j a x ha hx (hb a (List.mem_of_getElem? ha))
  | ps es a cap b o us hc ha hw h1 _ ih =>
    intro hb
    cases hb with
    | ps _ hb =>
      refine .ps es a cap b o us hc ha (fun k e j x hk hj => ⟨(hw k e j x hk hj).1, fun i l hi hb => (hw k e j x hk hj).2 i l (Ctx.lower_some hi).1 hb⟩) h1 fun k e j x hk hj => ih k e j x hk hj ?_
      have he := hb e (List.mem_of_getElem? hk)
      cases e with
      | agg cs => cases he with | agg _ he => exact he x (List.mem_of_getElem? hj)
      | _ =>
        cases j with
        | zero => simp [AV.cells] at hj; subst hj; exact he
        | succ j => simp [AV.cells] at hj
  | fs l b cap hb hc hh => exact fun _ => .fs l b cap ⟨fun h => hb.1 (Ctx.lower_owns h), hb.2⟩ hc hh
  | pp cs b o us hb hw h1 _ ih =>
    intro hbel
    cases hbel with
    | pp _ hbel => exact .pp cs b o us hb (fun j x hj => ⟨(hw j x hj).1, fun i l hi hb => (hw j x hj).2 i l (Ctx.lower_some hi).1 hb⟩) h1 fun j x hx => ih j x hx (hbel x (List.mem_of_getElem? hx))
  | rs i g off len a cap hi hl h =>
    intro hb
    cases hb with
    | rs _ _ _ _ hlt => exact .rs i g off len a cap hlt hl fun l hl' => h l (Ctx.lower_some hl').1
  | rc i g off len cap a hi hl h =>
    intro hb
    cases hb with
    | rc _ _ _ _ _ hlt => exact .rc i g off len cap a hlt hl fun l hl' => h l (Ctx.lower_some hl').1
  | lg i es v _ _ h3 ih1 ih2 =>
    intro hb
    cases hb with
    | lg _ _ hlt hes => exact .lg i es v (ih1 (.ps es hes)) (ih2 (.rs i _ 0 _ hlt)) fun l hl => h3 l (Ctx.lower_some hl).1
  | rp i g k off a hi h =>
    intro hb
    cases hb with
    | rp _ _ _ _ hlt => exact .rp i g k off a hlt fun l hl' => h l (Ctx.lower_some hl').1
  | mp i r hi h =>
    intro hb
    cases hb with
    | mp _ hlt => exact .mp i r hlt fun l hl' => h l (Ctx.lower_some hl').1
  | fn f first cap xs ys hx hy _ _ ih ih' =>
    intro hb
    cases hb with
    | fn _ _ _ h1 h2 => exact .fn f first cap xs ys hx hy (fun j a x ha hx => ih j a x ha hx (h1 a (List.mem_of_getElem? ha))) (fun j a x ha hx => ih' j a x ha hx (h2 a (List.mem_of_getElem? ha)))
  | ifc t a v _ ih =>
    intro hb
    cases hb with
    | ifc _ _ hb => exact .ifc t a v (ih hb)

theorem GR.lower {Γ : Ctx} {w : World} {cs : List AV} {g m : Nat} (h : GR Γ w cs g) (hb : Bel m (.pp cs)) : GR (Γ.lower m) w cs g := ⟨h.vr.lower hb, fun ho => h.own (Ctx.lower_owns ho), h.blk⟩
theorem R.lower {E : Env} {Γ : Ctx} {σ : Store} {w : World} {m : Nat} (hr : R E Γ σ w) (hm : m ≤ σ.next) (hs : StoreBel ⟨σ.get, m⟩) : R E (Γ.lower m) ⟨σ.get, m⟩ w := by
  refine ⟨rfl, ?_, ?_, ?_, ?_, fun g cs hg => (hr.glob g cs hg).lower (hr.gbel g cs m hg), hr.gbel, hr.base, fun i o l ho hl => hr.lims i o l ho (Ctx.lower_some hl).1⟩
  · intro i
    unfold Ctx.lower
    simp only
    split
    · exact hr.dom i
    · rename_i h
      cases ho : σ.get i with
      | none => rfl
      | some o => exact absurd (hs i o ho).1 h
  · intro i hi
    cases ho : σ.get i with
    | none => rfl
    | some o => have := (hs i o ho).1; simp only at this hi; omega
  · intro i j li lj b hi hj hib hjb
    exact hr.inj i j li lj b (Ctx.lower_some hi).1 (Ctx.lower_some hj).1 hib hjb
  · intro i o l ho hl
    have hr' := hr.objs i o l ho (Ctx.lower_some hl).1
    have hb := (hs i o ho).2
    cases o with
    | arr T g es =>
      simp only [ObjRel] at hr' ⊢
      obtain ⟨h1, h2, h3, h4, h5, h6⟩ := hr'
      refine ⟨h1, h2, h3, h4, h5, ?_⟩
      cases hbk : l.blk with
      | none => simp only [hbk] at h6 ⊢; exact h6
      | some b =>
        simp only [hbk] at h6 ⊢
        obtain ⟨xs, fr, q1, q2, q3, q4⟩ := h6
        refine ⟨xs, fr, q1, q2, q3, fun k e j x hk hj => ?_⟩
        obtain ⟨u, u1, u2, u3⟩ := q4 k e j x hk hj
        exact ⟨u, u1, u2, u3.lower (hb e (List.mem_of_getElem? hk) x (List.mem_of_getElem? hj))⟩
    | map ents born clock =>
      obtain ⟨h0, b, es, q1, q2, q3, q4, q5⟩ := hr'
      exact ⟨h0, b, es, q1, q2, q3, fun k e en hk hen => ⟨(q4 k e en hk hen).1, (q4 k e en hk hen).2.lower (hb en (List.mem_of_getElem? hen))⟩, q5⟩
    | log T m => exact hr'
    | lp b L => exact hr'
    | it o => exact hr'
    | mi m since seen last =>
      obtain ⟨h0, b, bm, q1, q2, q3⟩ := hr'
      exact ⟨h0, b, bm, q1, q2, q3.lower (.mp _ hb)⟩

/-- σ2 is σ with objects forgotten, and perhaps a smaller next number. -/
structure Forget (n : Nat) (σ σ2 : Store) : Prop where
  low : n ≤ σ2.next
  high : σ2.next ≤ σ.next
  sub : ∀ i o, σ2.get i = some o → σ.get i = some o
  bel : σ2.next = σ.next ∨ StoreBel σ2

def Belf (σ σ2 : Store) (a : AV) : Prop := σ2.next = σ.next ∨ Bel σ2.next a

theorem Forget.ctx {E : Env} {n : Nat} {Γ : Ctx} {σ σ2 : Store} {w : World} (hf : Forget n σ σ2) (hr : R E Γ σ w) :
    ∃ Γ2, ExtN n Γ w Γ2 w ∧ R E Γ2 σ2 w ∧ ∀ a a' v, VR Γ w a v → SR σ σ2 a a' → Belf σ σ2 a' → VR Γ2 w a' v := by
  obtain ⟨h1, h2, h3, h4⟩ := hf
  have hn : n ≤ Γ.next := by rw [hr.next]; omega
  rcases h4 with h4 | h4
  · exact ⟨Γ.only σ2, Ctx.only_ext Γ σ2 w hn, hr.only ⟨h4, h3⟩, fun a a' v hv hs _ => hv.sr hr hs⟩
  · have hsub : Store.sub ⟨σ2.get, σ.next⟩ σ := ⟨rfl, h3⟩
    have hsr : ∀ a a', SR σ σ2 a a' → SR σ ⟨σ2.get, σ.next⟩ a a' := by
      intro a a' h
      induction h with
      | refl a => exact .refl a
      | junk a => exact .junk a
      | nl => exact .nl
      | rs i g off len T es es' hi h2 hle hl hcl _ ih => exact .rs i g off len T es es' hi h2 hle hl hcl ih
      | rc i g off len cap b _ ih => exact .rc i g off len cap b ih
      | rp i g k off T es e cs' hi h2 hk hl _ ih => exact .rp i g k off T es e cs' hi h2 hk hl ih
      | agg cs cs' hl _ ih => exact .agg cs cs' hl ih
      | tup cs cs' hl _ ih => exact .tup cs cs' hl ih
      | ps es es' hl hcl _ ih => exact .ps es es' hl hcl ih
      | ifc t a a' _ ih => exact .ifc t a a' ih
      | lg i es es' _ ih => exact .lg i es es' ih
      | lgl i es es' hl hcl _ ih => exact .lgl i es es' hl hcl ih
    have hR1 := hr.only hsub
    have hR2 := hR1.lower (m := σ2.next) h2 h4
    have hm : σ2.next ≤ (Γ.only ⟨σ2.get, σ.next⟩).next := by show _ ≤ Γ.next; rw [hr.next]; exact h2
    refine ⟨(Γ.only ⟨σ2.get, σ.next⟩).lower σ2.next, (Ctx.only_ext Γ _ w hn).trans (Ctx.lower_ext _ w h1 hm), hR2, fun a a' v hv hs hb => ?_⟩
    have hv1 := hv.sr hr (hsr a a' hs)
    rcases hb with hb | hb
    · have : (Γ.only ⟨σ2.get, σ.next⟩).lower σ2.next = (Γ.only ⟨σ2.get, σ.next⟩) := by
        unfold Ctx.lower
        have hn2 : σ2.next = (Γ.only ⟨σ2.get, σ.next⟩).next := by show _ = Γ.next; rw [hr.next]; exact hb
        rw [hn2]
        congr 1
        funext i
        split
        · rfl
        · rename_i hi
          exact (hR1.none_next (by rw [← hR1.next]; omega)).symm
      rw [this]; exact hv1
    · exact hv1.lower hb

/-- Forgetting, values and store. -/
def Weak (n N : Nat) (f : Nat → AV) (σ : Store) (f2 : Nat → AV) (σ2 : Store) : Prop :=
  Forget n σ σ2 ∧ (∀ t, t < N → SR σ σ2 (f t) (f2 t) ∧ Belf σ σ2 (f2 t)) ∧ ∀ t, N ≤ t → f2 t = .junk

theorem Weak.ctx {E : Env} {n N : Nat} {Γ : Ctx} {f f2 : Nat → AV} {σ σ2 : Store} {w : World} {tmps : Array Value} (h : Weak n N f σ f2 σ2) (hr : R E Γ σ w) (ht : TR N Γ w f tmps) :
    ∃ Γ2, ExtN n Γ w Γ2 w ∧ R E Γ2 σ2 w ∧ TR N Γ2 w f2 tmps := by
  obtain ⟨h1, h2, h3⟩ := h
  obtain ⟨Γ2, k1, k2, k3⟩ := h1.ctx hr
  exact ⟨Γ2, k1, k2, ht.size, fun t htn => k3 _ _ _ (ht.rel t htn) (h2 t htn).1 (h2 t htn).2, h3⟩

/-- Forgetting ahead of a piece of code. -/
theorem AW.weaken {c : Code} (f2 : Nat → AV) (σ2 : Store) (hw : Weak n N f σ f2 σ2) (h : AW E n N c f2 σ2 Q) : AW E n N c f σ Q := by
  intro rd ds0 Γ w a hn hr ht hd
  obtain ⟨Γ2, hx, hr2, ht2⟩ := hw.ctx hr ht
  exact wpIn_mono (h rd ds0 Γ2 w a hx.le' hr2 ht2 (hd.ext hr hx)) fun e a w' hp => Post.trans hx hp

/-- A loop: what holds at its head, by a parameter; a measure. -/
theorem AW.loop {c : Code} {ι : Type} (I : ι → (Nat → AV) → Store → Prop) (μ : ι → Nat) (x0 : ι) {f2 : Nat → AV} {σ2 : Store} (hw : Weak n N f σ f2 σ2) (h0 : I x0 f2 σ2)
    (round : ∀ x f σ, I x f σ → AW E n N c f σ (AThen (fun f' σ' => ∃ x' f2 σ2, Weak n N f' σ' f2 σ2 ∧ I x' f2 σ2 ∧ μ x' < μ x) Q)) : AW E n N (.loop c) f σ Q := by
  refine AW.weaken f2 σ2 hw ?_
  intro rd ds0 Γ w a hn hr ht hd
  let inv (k : Nat) (a' : Act) (w' : World) : Prop := ∃ x Γ' f' σ', μ x = k ∧ ExtN n Γ w Γ' w' ∧ R E Γ' σ' w' ∧ TR N Γ' w' f' a'.tmps ∧ Marks w' ds0 a'.defers ∧ I x f' σ'
  intro b kk cs hro hb hroom
  have key : ∀ k a' w', inv k a' w' → ∃ e a₂ w₂, Post E n N Γ w ds0 Q e a₂ w₂ ∧ ArrivesIn (Machine.fenced E.P (wideR rd)) E.P (lone (b.atR a' (.code c :: .inLoop c :: kk)) cs w') b kk cs e a₂ w₂ := by
    intro k
    induction k using Nat.strongRecOn with
    | _ k ih =>
      rintro a' w' ⟨x, Γ', f', σ', hk, hx, hr', ht', hd', hI⟩
      have hround := round x f' σ' hI rd ds0 Γ' w' a' hx.le' hr' ht' hd'
      obtain ⟨e, a₁, w₁, hq, harr⟩ := hround b (.inLoop c :: kk) cs hro hb hroom
      rcases hq with ⟨Γ1, f1, σ1, y, hy, hx1, hr1, ht1, hd1, hq1⟩ | ⟨v, rfl, hp, hm⟩
      · cases e with
        | normal =>
          cases y <;> first | exact hy.elim | skip
          obtain ⟨x', f3, σ3, hwk, hI', hlt⟩ := hq1
          obtain ⟨Γ3, hx3, hr3, ht3⟩ := hwk.ctx hr1 ht1
          obtain ⟨e₂, a₂, w₂, hq₂, harr₂⟩ := ih (μ x') (by omega) a₁ w₁ ⟨x', Γ3, f3, σ3, rfl, (hx.trans hx1).trans hx3, hr3, ht3, hd1.ext hr1 hx3, hI'⟩
          exact ⟨e₂, a₂, w₂, hq₂, .of_steps (StepsIn.trans harr (.one (fenced_calm (fr := b.atR a₁ (.inLoop c :: kk)) hb hroom rfl) stepR_inLoop)) harr₂⟩
        | exit i => cases y <;> first | exact hy.elim | exact ⟨_, a₁, w₁, .inl ⟨Γ1, f1, σ1, _, hy, hx.trans hx1, hr1, ht1, hd1, hq1⟩, .pass (x := .inLoop c) rfl (fun _ _ => .inl (by simp)) harr⟩
        | goto i => cases y <;> first | exact hy.elim | exact ⟨_, a₁, w₁, .inl ⟨Γ1, f1, σ1, _, hy, hx.trans hx1, hr1, ht1, hd1, hq1⟩, .pass (x := .inLoop c) rfl (fun _ _ => .inl (by simp)) harr⟩
        | ret => cases y <;> first | exact hy.elim | exact ⟨_, a₁, w₁, .inl ⟨Γ1, f1, σ1, _, hy, hx.trans hx1, hr1, ht1, hd1, hq1⟩, .pass (x := .inLoop c) rfl (fun _ _ => .inl (by simp)) harr⟩
        | panic ch => cases y <;> exact hy.elim
        | outgrown => cases y <;> exact hy.elim
      · refine ⟨_, a₁, w₁, Post.trans hx (.inr ⟨v, rfl, hp, hm⟩), .pass (x := .inLoop c) rfl (fun _ _ => .inl (by simp)) harr⟩
  obtain ⟨e, a₂, w₂, hq, harr⟩ := key (μ x0) a w ⟨x0, Γ, f2, σ2, rfl, ExtN.refl Γ w hn, hr, ht, hd, h0⟩
  exact ⟨e, a₂, w₂, hq, .of_steps (.one (fenced_calm (fr := b.atR a (.code (.loop c) :: kk)) hb hroom rfl) stepR_loop) harr⟩

end
end Go.AW
