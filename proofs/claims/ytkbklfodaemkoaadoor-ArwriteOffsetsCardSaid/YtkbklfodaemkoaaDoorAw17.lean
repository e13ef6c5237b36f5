/- Regions that draw the order of their operations, some of which change the store. No condition. -/
import Derived.Test.YtkbklfodaemkoaaDoorAw16
set_option linter.unusedVariables false
set_option linter.unusedSimpArgs false
set_option linter.unnecessarySimpa false
namespace Go.AW
open Go

theorem opK_looks {E : Env} {ow : List Nat} {ops : Array Oper} {σ : Store} {o : Oper} {f g : Nat → AV} {K : AV → Store → Prop} (h : ∀ t ∈ o.looksAt ops, f t = g t) : opK E ow o f σ K = opK E ow o g σ K :=
  opK_congr fun x hx => by
    cases x with
    | tmp t => exact h t (List.mem_append_left _ (List.mem_filterMap.2 ⟨.tmp t, by simpa using hx, rfl⟩))
    | _ => rfl

theorem aGuard_looks {ops : Array Oper} {o : Oper} {f g : Nat → AV} (h : ∀ t ∈ o.looksAt ops, f t = g t) : aGuard ops f o = aGuard ops g o := by
  unfold aGuard
  cases hg : o.guard with
  | none => rfl
  | some gw =>
    obtain ⟨j, want⟩ := gw
    simp only
    cases hd : (ops[j]?).bind (·.dst) with
    | none => rfl
    | some t =>
      have : f t = g t := h t (by unfold Oper.looksAt; rw [hg]; simp [hd])
      simp only [this]

/-- What an operation of such a region is: it leaves the store alone and may come up at these points (0: before all others, q + 1: behind operation q, which changes the store); or it changes the store. -/
inductive An where
  | q (ps : List Nat)
  | e

def An.isE : An → Bool
  | .e => true
  | _ => false

def pos (an : List An) (p : Nat) : Bool := p == 0 || (match an[p - 1]? with | some .e => true | _ => false)

def lastPos (an : List An) : Nat → Nat
  | 0 => 0
  | j + 1 => match an[j]? with
    | some .e => j + 1
    | _ => lastPos an j

def onlyOn (o : Oper) : List Nat := (o.after.toList.filter fun e => Region.binds .any e).map (·.on)

def addNew (a : List Nat) (x : Nat) : List Nat := if a.contains x then a else x :: a

def preOf : List Oper → List (List Nat) → List (List Nat)
  | [], acc => acc
  | o :: l, acc => preOf l (acc ++ [((onlyOn o).flatMap fun j => j :: acc.getD j []).foldl addNew []])

def planOk (l : List Oper) (an : List An) : Bool :=
  let pre := preOf l []
  let n := l.length
  an.length == n && pre.length == n && (List.range n).all fun i =>
    match l[i]?, an[i]?, pre[i]? with
    | some o, some a, some ps =>
      (onlyOn o).all (fun j => decide (j < i)) &&
      ps.all (fun j => (onlyOn o).any fun k => k == j || (pre.getD k []).contains j) &&
      (List.range n).all (fun k => k == i || (match (l[k]?).bind (·.dst) with
        | some d => (!((o.looksAt l.toArray).contains d) || (ps.contains k && decide (k < i)) || ((pre.getD k []).contains i && decide (i < k))) && !(o.dst == some d)
        | none => true)) &&
      (match a with
      | .e => (List.range n).all fun k => !(decide (k < i) && (an[k]?.map An.isE).getD false) || ps.contains k
      | .q w => (List.range (n + 1)).all fun p => !(pos an p) || w.contains p ||
          (List.range n).any (fun k => (an[k]?.map An.isE).getD false && ((ps.contains k && decide (p ≤ k)) || ((pre.getD k []).contains i && decide (k < p)))))
    | _, _, _ => false

section
variable {E : Env} {ow : List Nat} {N : Nat} {ops : Array Oper} {md : Region.Mode}

/-- Operation i comes up. -/
def qE (E : Env) (ow : List Nat) (N : Nat) (ops : Array Oper) (i : Nat) (K : (Nat → AV) → Store → Prop) (f : Nat → AV) (σ : Store) : Prop :=
  match ops[i]? with
  | none => K f σ
  | some o => match aGuard ops f o with
    | some g => (g = true → ∃ a σ1, opK E ow o f σ (fun a' σ' => a' = a ∧ σ' = σ1) ∧ aput N f o.dst a fun f' => K f' σ1) ∧ (g = false → aput N f o.dst (.tup []) fun f' => K f' σ)
    | none => False

def anyE (E : Env) (ow : List Nat) (N : Nat) (md : Region.Mode) (ops : Array Oper) (Q : (Nat → AV) → Store → Prop) : Nat → Array Bool → (Nat → AV) → Store → Prop
  | 0, listed, f, σ => Region.ready md ops listed = [] ∧ Q f σ
  | fuel + 1, listed, f, σ => (Region.ready md ops listed = [] → Q f σ) ∧ ∀ i ∈ Region.ready md ops listed, qE E ow N ops i (anyE E ow N md ops Q fuel (listed.setIfInBounds i true)) f σ

theorem anyE_ok {n : Nat} {Γ0 : Ctx} {w0 : World} {rd : Option Nat} {ds0 : List Deferred × Nat} {Q : (Nat → AV) → Store → Prop} {Q' : Exit → Act → World → Prop}
    (hQ : ∀ Γ w f σ a, ExtN n Γ0 w0 Γ w → R E Γ σ w → TR N Γ w f a.tmps → Marks w ds0 a.defers → Q f σ → Q' .normal a w)
    (hP : ∀ v w a, PanRes E n Γ0 w0 v w → Marks w ds0 a.defers → Q' (.panic [{ v := v, recovered := false }]) a w) :
    ∀ (fuel : Nat) (listed : Array Bool) (f : Nat → AV) (σ : Store) (Γ : Ctx) (w : World) (a : Act), ExtN n Γ0 w0 Γ w → R E Γ σ w → TR N Γ w f a.tmps → Marks w ds0 a.defers → anyE E ow N md ops Q fuel listed f σ → wpAnyIn (wideR rd) 0 E.P md ops Q' fuel listed a w
  | 0, listed, f, σ, Γ, w, a, hx, hr, ht, hd, h => ⟨h.1, hQ Γ w f σ a hx hr ht hd h.2⟩
  | fuel + 1, listed, f, σ, Γ, w, a, hx, hr, ht, hd, h => by
    refine ⟨fun h0 => hQ Γ w f σ a hx hr ht hd (h.1 h0), fun i hi => ?_⟩
    have h1 := h.2 i hi
    unfold wpOpIn
    unfold qE at h1
    split
    · rename_i ho
      simp only [ho] at h1
      exact anyE_ok hQ hP fuel _ f σ Γ w a hx hr ht hd h1
    · rename_i o ho
      simp only [ho] at h1
      split at h1
      · rename_i g hg
        cases g with
        | true =>
          obtain ⟨x, σ1, hx1, hx2⟩ := h1.1 rfl
          rw [if_pos (aGuard_ok ht hg)]
          refine Up.upon (opK_ok (ρ := a.eval) hr (fun x _ => ht.eval hr x) (fun _ => rfl) hx1) (opK_defer hx1) ?_ ?_
          · rintro v w' ⟨Γ', y, σ', k1, k2, k3, e1, e2⟩
            subst e1; subst e2
            obtain ⟨f', ht', hk, hd'⟩ := aput_ok (ht.ext k1) k3 hx2
            exact anyE_ok hQ hP fuel _ f' σ' Γ' w' _ (hx.trans (k1.mono hx.le')) k2 ht' (by rw [hd']; exact hd.ext hr k1) hk
          · intro v w' h
            obtain ⟨Γ', h1⟩ := h.ext
            exact hP v w' a (.of_res hx h) (hd.ext hr h1)
        | false =>
          rw [if_neg (by rw [aGuard_ok ht hg]; simp)]
          obtain ⟨f', ht', hk, hd'⟩ := aput_ok ht (VR.undef_ Γ w) (h1.2 rfl)
          exact ⟨fun _ _ => trivial, anyE_ok hQ hP fuel _ f' σ Γ w _ hx hr ht' (by rw [hd']; exact hd) hk⟩
      · exact h1.elim

/-! ### The walk in the order of the text -/
def oblA (E : Env) (ow : List Nat) (o : Oper) (f : Nat → AV) (a : AV) (ps : List Nat) : List (Nat × Store) → Prop
  | [] => True
  | x :: l => (x.1 ∈ ps → opK E ow o f x.2 fun a' σ' => a' = a ∧ σ' = x.2) ∧ oblA E ow o f a ps l

structure Pend where
  ps : List Nat
  o : Oper
  f : Nat → AV
  a : AV

def oblB (E : Env) (ow : List Nat) (p : Nat) (σ : Store) : List Pend → Prop
  | [] => True
  | x :: l => (p ∈ x.ps → opK E ow x.o x.f σ fun a' σ' => a' = x.a ∧ σ' = σ) ∧ oblB E ow p σ l

def opD (E : Env) (ow : List Nat) (o : Oper) (f : Nat → AV) (σ : Store) (K : AV → Store → Prop) : Prop :=
  if byVal o = true then ∃ a σ1, opK E ow o f σ (fun a' σ' => a' = a ∧ σ' = σ1) ∧ K a σ1 else opK E ow o f σ K

theorem opD_ok {o : Oper} {f : Nat → AV} {σ : Store} {K : AV → Store → Prop} (h : opD E ow o f σ K) : ∃ a σ1, opK E ow o f σ (fun a' σ' => a' = a ∧ σ' = σ1) ∧ K a σ1 := by
  unfold opD at h
  split at h
  · exact h
  · rename_i hb
    exact opK_det (by simpa using hb) h

/-- An operation that does not look at the store. -/
def pureOp (ow : List Nat) (o : Oper) : Bool :=
  match o.op with
  | .assign x => !(isNil x && (o.dst.map fun d => ow.contains (d + 3000000)).getD false) && !(isNil x && (o.dst.map fun d => ow.contains (d + 4000000)).getD false)
  | .move _ | .pick .. | .build .. | .nilCheck _ | .binOp .. | .unOp .. | .makeInterface .. | .makeFunc .. | .fieldAddr .. | .field .. | .index .. | .extract .. => true
  | .buildSlice .. => (ownN ow o.dst == 0)
  | _ => false

theorem pureOp_ok {o : Oper} {f : Nat → AV} {a : AV} {σ σ2 : Store} (hp : pureOp ow o = true) (h : opK E ow o f σ fun a' σ' => a' = a ∧ σ' = σ) : opK E ow o f σ2 fun a' σ' => a' = a ∧ σ' = σ2 := by
  obtain ⟨dst, op, ty, ps, after, guard⟩ := o
  have e1 : (fun a' => a' = a ∧ σ = σ) = (fun a' => a' = a ∧ σ2 = σ2) := by simp
  cases op <;> simp only [pureOp, Bool.false_eq_true] at hp <;> simp only [opK] at h ⊢
  case buildSlice t n parts =>
    have hp' : ownN ow dst = 0 := by simpa using hp
    rw [hp'] at h ⊢
    split
    · rename_i hl; rw [if_pos hl] at h; exact h
    · rename_i hl; rw [if_neg hl] at h
      unfold aBuildSlice at h ⊢
      split at h
      · simpa using h
      · exact h.elim
  case assign x =>
    have hp' : ¬ (isNil x && (dst.map fun d => ow.contains (d + 3000000)).getD false) = true := by intro hh; rw [hh] at hp; simp at hp
    have hp2 : ¬ (isNil x && (dst.map fun d => ow.contains (d + 4000000)).getD false) = true := by intro hh; rw [hh] at hp; simp at hp
    rw [if_neg hp', if_neg hp2] at h ⊢
    exact ⟨h.1, by trivial⟩
  all_goals first
    | (rw [e1] at h; exact h)
    | (split at h <;> first | exact h.elim | (simpa using h))
    | (simpa using h)
    | (split at h
       · split at h <;> first | exact h.elim | (simp_all)
       · exact h.elim)

def aopsE (E : Env) (ow : List Nat) (N : Nat) (ops : Array Oper) (Q : (Nat → AV) → Store → Prop) : List An → List Oper → Nat → Nat → List (Nat × Store) → List Pend → (Nat → AV) → Store → Prop
  | _, [], _, _, _, _, f, σ => Q f σ
  | .q ps :: an, o :: l, k, cur, past, pend, f, σ => (match aGuard ops f o with
    | some g => (g = true → opR E ow o f σ fun a => (pureOp ow o = false → oblA E ow o f a ps past) ∧ aput N f o.dst a fun f' => aopsE E ow N ops Q an l (k + 1) cur past (if pureOp ow o = true then pend else ⟨ps, o, f, a⟩ :: pend) f' σ) ∧
        (g = false → aput N f o.dst (.tup []) fun f' => aopsE E ow N ops Q an l (k + 1) cur past pend f' σ)
    | none => False)
  | .e :: an, o :: l, k, cur, past, pend, f, σ => (match aGuard ops f o with
    | some g => (g = true → opD E ow o f σ fun a σ' => oblB E ow (k + 1) σ' pend ∧ aput N f o.dst a fun f' => aopsE E ow N ops Q an l (k + 1) (k + 1) ((cur, σ) :: past) pend f' σ') ∧
        (g = false → oblB E ow (k + 1) σ pend ∧ aput N f o.dst (.tup []) fun f' => aopsE E ow N ops Q an l (k + 1) (k + 1) ((cur, σ) :: past) pend f' σ)
    | none => False)
  | [], _ :: _, _, _, _, _, _, _ => False

/-- What is known of one operation. -/
def StepOk (E : Env) (ow : List Nat) (N : Nat) (ops : Array Oper) (an : List An) (S : Nat → Store) (A : Nat → AV) (G : Nat → Bool) (F : Nat → Nat → AV) (j : Nat) (o : Oper) : Prop :=
  (∀ d, o.dst = some d → d < N) ∧ aGuard ops (F j) o = some (G j) ∧ F (j + 1) = fput (F j) o.dst (A j) ∧ (G j = false → A j = .tup []) ∧
  match an[j]? with
  | some (.q ps) => G j = true → ∀ p ∈ ps, pos an p = true → p ≤ an.length → opK E ow o (F j) (S p) fun a' σ' => a' = A j ∧ σ' = S p
  | some .e => (G j = true → opK E ow o (F j) (S (lastPos an j)) fun a' σ' => a' = A j ∧ σ' = S (j + 1)) ∧ (G j = false → S (j + 1) = S (lastPos an j))
  | none => False

theorem oblA_mem {o : Oper} {f : Nat → AV} {a : AV} {ps : List Nat} : ∀ {l : List (Nat × Store)}, oblA E ow o f a ps l → ∀ x ∈ l, x.1 ∈ ps → opK E ow o f x.2 fun a' σ' => a' = a ∧ σ' = x.2
  | [], _, x, hx, _ => by cases hx
  | y :: l, h, x, hx, hp => by
    rcases List.mem_cons.1 hx with rfl | hx
    · exact h.1 hp
    · exact oblA_mem h.2 x hx hp

theorem oblB_mem {p : Nat} {σ : Store} : ∀ {l : List Pend}, oblB E ow p σ l → ∀ x ∈ l, p ∈ x.ps → opK E ow x.o x.f σ fun a' σ' => a' = x.a ∧ σ' = σ
  | [], _, x, hx, _ => by cases hx
  | y :: l, h, x, hx, hp => by
    rcases List.mem_cons.1 hx with rfl | hx
    · exact h.1 hp
    · exact oblB_mem h.2 x hx hp

theorem pos_succ {an : List An} {k : Nat} : pos an (k + 1) = true ↔ an[k]? = some .e := by
  unfold pos
  simp only [Nat.add_sub_cancel, Bool.or_eq_true, beq_iff_eq, Nat.succ_ne_zero, false_or]
  split
  · simp_all
  · simp_all

theorem lastPos_spec (an : List An) : ∀ j, pos an (lastPos an j) = true ∧ lastPos an j ≤ j ∧ ∀ p, pos an p = true → p ≤ j → p ≤ lastPos an j
  | 0 => ⟨rfl, Nat.le_refl _, fun p _ h => h⟩
  | j + 1 => by
    obtain ⟨h1, h2, h3⟩ := lastPos_spec an j
    unfold lastPos
    split
    · rename_i he
      exact ⟨pos_succ.2 he, Nat.le_refl _, fun p _ h => h⟩
    · rename_i hne
      refine ⟨h1, by omega, fun p hp hle => ?_⟩
      rcases Nat.lt_or_ge j p with h | h
      · have : p = j + 1 := by omega
        subst this
        exact absurd (pos_succ.1 hp) hne
      · exact h3 p hp h

set_option maxHeartbeats 2000000 in
theorem aopsE_plan {Q : (Nat → AV) → Store → Prop} (full : List An) : ∀ (l : List Oper) (an : List An) (k cur : Nat) (past : List (Nat × Store)) (pend : List Pend) (f : Nat → AV) (σ : Store) (S0 : Nat → Store),
    (∀ j, l[j]? = ops[k + j]?) → (∀ j, an[j]? = full[k + j]?) → full.length = k + l.length → cur = lastPos full k → (∀ p, pos full p = true → p ≤ k → p = cur ∨ ∃ x ∈ past, x.1 = p) →
    S0 cur = σ → (∀ x ∈ past, x.1 ≤ k ∧ S0 x.1 = x.2) → aopsE E ow N ops Q an l k cur past pend f σ →
    ∃ (S : Nat → Store) (A : Nat → AV) (G : Nat → Bool) (F : Nat → Nat → AV), (∀ p, p ≤ k → S p = S0 p) ∧ F k = f ∧
      (∀ j o, k ≤ j → ops[j]? = some o → StepOk E ow N ops full S A G F j o) ∧
      (∀ x ∈ pend, ∀ p ∈ x.ps, pos full p = true → k < p → p ≤ full.length → opK E ow x.o x.f (S p) fun a' σ' => a' = x.a ∧ σ' = S p) ∧
      Q (F full.length) (S (lastPos full full.length))
  | [], an, k, cur, past, pend, f, σ, S0, hl, ha, hn, hc, hcov, h0, hp, h => by
    have hn : full.length = k := by simpa using hn
    refine ⟨S0, fun _ => .junk, fun _ => true, fun _ => f, fun _ _ => rfl, rfl, ?_, ?_, ?_⟩
    · intro j o hj ho
      have := hl (j - k)
      rw [show k + (j - k) = j by omega, ho] at this
      simp at this
    · intro x hx p hpx hpos h1 h2; omega
    · rw [hn, ← hc, h0]
      unfold aopsE at h
      exact h
  | o :: l, an, k, cur, past, pend, f, σ, S0, hl, ha, hn, hc, hcov, h0, hp, h => by
    have hok : ops[k]? = some o := by simpa using (hl 0).symm
    have hl' : ∀ j, l[j]? = ops[k + 1 + j]? := fun j => by have := hl (j + 1); simpa [Nat.add_assoc, Nat.add_comm 1 j] using this
    have hn' : full.length = k + 1 + l.length := by simp at hn; omega
    cases an with
    | nil => unfold aopsE at h; exact h.elim
    | cons x an =>
      have hx : full[k]? = some x := by simpa using (ha 0).symm
      have ha' : ∀ j, an[j]? = full[k + 1 + j]? := fun j => by have := ha (j + 1); simpa [Nat.add_assoc, Nat.add_comm 1 j] using this
      have hcur := lastPos_spec full k
      rw [← hc] at hcur
      obtain ⟨c1, c2, c3⟩ := hcur
      cases x with
      | q ps =>
        have hlast : cur = lastPos full (k + 1) := by rw [lastPos, hx]; exact hc
        have hnot : pos full (k + 1) ≠ true := fun hh => by rw [pos_succ, hx] at hh; cases hh
        have hcov' : ∀ p, pos full p = true → p ≤ k + 1 → p = cur ∨ ∃ x ∈ past, x.1 = p := fun p h1 h2 => by
          rcases Nat.lt_or_ge k p with h3 | h3
          · have : p = k + 1 := by omega
            subst this; exact absurd h1 hnot
          · exact hcov p h1 h3
        have hp' : ∀ x ∈ past, x.1 ≤ k + 1 ∧ S0 x.1 = x.2 := fun x hx => ⟨Nat.le_succ_of_le (hp x hx).1, (hp x hx).2⟩
        unfold aopsE at h
        cases hg : aGuard ops f o with
        | none => rw [hg] at h; exact h.elim
        | some g =>
          rw [hg] at h
          have key : ∀ (a : AV) (pend' : List Pend), (∀ x ∈ pend, x ∈ pend') → (g = false → a = .tup []) → (g = true → opK E ow o f σ (fun a' σ' => a' = a ∧ σ' = σ) ∧ (pureOp ow o = false → oblA E ow o f a ps past ∧ (⟨ps, o, f, a⟩ : Pend) ∈ pend')) →
              aput N f o.dst a (fun f' => aopsE E ow N ops Q an l (k + 1) cur past pend' f' σ) →
              ∃ (S : Nat → Store) (A : Nat → AV) (G : Nat → Bool) (F : Nat → Nat → AV), (∀ p, p ≤ k → S p = S0 p) ∧ F k = f ∧
                (∀ j o, k ≤ j → ops[j]? = some o → StepOk E ow N ops full S A G F j o) ∧
                (∀ x ∈ pend, ∀ p ∈ x.ps, pos full p = true → k < p → p ≤ full.length → opK E ow x.o x.f (S p) fun a' σ' => a' = x.a ∧ σ' = S p) ∧
                Q (F full.length) (S (lastPos full full.length)) := by
            intro a pend' hsub hga hgt hh
            obtain ⟨hd, hh⟩ := aput_iff.1 hh
            obtain ⟨S, A, G, F, i1, i2, i3, i4, i5⟩ := aopsE_plan full l an (k + 1) cur past pend' _ σ S0 hl' ha' hn' hlast hcov' h0 hp' hh
            refine ⟨S, fun j => if j = k then a else A j, fun j => if j = k then g else G j, fun j => if j = k then f else F j, fun p hpk => i1 p (by omega), by simp, ?_, ?_, ?_⟩
            · intro j o' hj ho'
              by_cases hjk : j = k
              · subst hjk
                rw [hok] at ho'
                obtain rfl := Option.some.inj ho'
                refine ⟨hd, by simp only [if_true]; exact hg, by simp [i2], by simpa using hga, ?_⟩
                rw [hx]
                simp only [if_true]
                intro hgg p hpps hpos hpl
                obtain ⟨o2, o13⟩ := hgt hgg
                cases hpu : pureOp ow o with
                | true => exact pureOp_ok hpu o2
                | false =>
                obtain ⟨o1, o3⟩ := o13 hpu
                rcases Nat.lt_or_ge j p with hlt | hge
                · exact i4 _ o3 p hpps hpos (by
                    rcases Nat.lt_or_ge (j + 1) p with h' | h'
                    · exact h'
                    · have : p = j + 1 := by omega
                      subst this; exact absurd hpos hnot) hpl
                · rw [i1 p (by omega)]
                  rcases hcov p hpos hge with rfl | ⟨x, hx1, rfl⟩
                  · rw [h0]; exact o2
                  · rw [(hp x hx1).2]; exact oblA_mem o1 x hx1 hpps
              · have := i3 j o' (by omega) ho'
                unfold StepOk at this ⊢
                simp only [if_neg hjk, if_neg (show ¬ j + 1 = k by omega)]
                exact this
            · intro x hx1 p hpx hpos h1 h2
              exact i4 x (hsub x hx1) p hpx hpos (by
                    rcases Nat.lt_or_ge (k + 1) p with h' | h'
                    · exact h'
                    · have : p = k + 1 := by omega
                      subst this; exact absurd hpos hnot) h2
            · simpa [show full.length ≠ k by omega] using i5
          cases g with
          | true =>
            obtain ⟨a, q1, q2, q3⟩ := opR_ok (h.1 rfl)
            exact key a _ (fun x hx => by split <;> first | exact hx | exact List.mem_cons_of_mem _ hx) (by simp) (fun _ => ⟨q1, fun hpu => ⟨q2 hpu, by simp [hpu]⟩⟩) q3
          | false => exact key _ pend (fun x hx => hx) (fun _ => rfl) (by simp) (h.2 rfl)
      | e =>
        have hlast : k + 1 = lastPos full (k + 1) := by rw [lastPos, hx]
        have hpk : pos full (k + 1) = true := by rw [pos_succ, hx]
        have hcov' : ∀ σ', ∀ p, pos full p = true → p ≤ k + 1 → p = k + 1 ∨ ∃ x ∈ (cur, σ') :: past, x.1 = p := fun σ' p h1 h2 => by
          rcases Nat.lt_or_ge k p with h3 | h3
          · exact .inl (by omega)
          · rcases hcov p h1 h3 with rfl | ⟨x, hx, h⟩
            · exact .inr ⟨(p, σ'), by simp, rfl⟩
            · exact .inr ⟨x, List.mem_cons_of_mem _ hx, h⟩
        unfold aopsE at h
        cases hg : aGuard ops f o with
        | none => rw [hg] at h; exact h.elim
        | some g =>
          rw [hg] at h
          have key : ∀ (a : AV) (σ' : Store), (g = false → a = .tup [] ∧ σ' = σ) → (g = true → opK E ow o f σ (fun a' σ'' => a' = a ∧ σ'' = σ')) → oblB E ow (k + 1) σ' pend →
              aput N f o.dst a (fun f' => aopsE E ow N ops Q an l (k + 1) (k + 1) ((cur, σ) :: past) pend f' σ') →
              ∃ (S : Nat → Store) (A : Nat → AV) (G : Nat → Bool) (F : Nat → Nat → AV), (∀ p, p ≤ k → S p = S0 p) ∧ F k = f ∧
                (∀ j o, k ≤ j → ops[j]? = some o → StepOk E ow N ops full S A G F j o) ∧
                (∀ x ∈ pend, ∀ p ∈ x.ps, pos full p = true → k < p → p ≤ full.length → opK E ow x.o x.f (S p) fun a' σ' => a' = x.a ∧ σ' = S p) ∧
                Q (F full.length) (S (lastPos full full.length)) := by
            intro a σ' hga hgt hob hh
            obtain ⟨hd, hh⟩ := aput_iff.1 hh
            obtain ⟨S, A, G, F, i1, i2, i3, i4, i5⟩ := aopsE_plan full l an (k + 1) (k + 1) ((cur, σ) :: past) pend _ σ' (fun p => if p = k + 1 then σ' else S0 p) hl' ha' hn' hlast (hcov' σ) (by simp) (by
              intro x hx
              rcases List.mem_cons.1 hx with rfl | hx
              · exact ⟨by simp; omega, by simp [show cur ≠ k + 1 by omega, h0]⟩
              · have := hp x hx
                exact ⟨by omega, by simp [show x.1 ≠ k + 1 by omega, this.2]⟩) hh
            have hS : S (k + 1) = σ' := by rw [i1 (k + 1) (Nat.le_refl _)]; simp
            have hSo : ∀ p, p ≤ k → S p = S0 p := fun p hpk => by rw [i1 p (by omega)]; simp [show p ≠ k + 1 by omega]
            refine ⟨S, fun j => if j = k then a else A j, fun j => if j = k then g else G j, fun j => if j = k then f else F j, hSo, by simp, ?_, ?_, ?_⟩
            · intro j o' hj ho'
              by_cases hjk : j = k
              · subst hjk
                rw [hok] at ho'
                obtain rfl := Option.some.inj ho'
                refine ⟨hd, by simp only [if_true]; exact hg, by simp [i2], by simp; exact fun e => (hga e).1, ?_⟩
                rw [hx]
                simp only [if_true]
                rw [← hc, hS, hSo cur c2, h0]
                exact ⟨hgt, fun e => (hga e).2⟩
              · have := i3 j o' (by omega) ho'
                unfold StepOk at this ⊢
                simp only [if_neg hjk, if_neg (show ¬ j + 1 = k by omega)]
                exact this
            · intro x hx1 p hpx hpos h1 h2
              rcases Nat.lt_or_ge (k + 1) p with h' | h'
              · exact i4 x hx1 p hpx hpos h' h2
              · have : p = k + 1 := by omega
                subst this
                rw [hS]
                exact oblB_mem hob x hx1 hpx
            · simpa [show full.length ≠ k by omega] using i5
          cases g with
          | true =>
            obtain ⟨a, σ', q1, q2, q3⟩ := opD_ok (h.1 rfl)
            exact key a σ' (by simp) (fun _ => q1) q2 q3
          | false => exact key _ σ (fun _ => ⟨rfl, rfl⟩) (by simp) (h.2 rfl).1 (h.2 rfl).2

theorem fput_other {f : Nat → AV} {d : Option Tmp} {a : AV} {t : Nat} (h : d ≠ some t) : fput f d a t = f t := by
  cases d with
  | none => rfl
  | some e =>
    have : t ≠ e := fun hte => h (by rw [hte])
    simp [fput, upd, this]

theorem getD_set_ne' {listed : Array Bool} {i j : Nat} (h : i ≠ j) : (listed.setIfInBounds i true).getD j false = listed.getD j false := by
  simp [Array.getElem?_setIfInBounds_ne h]

theorem isE_iff {an : List An} {k : Nat} : ((an[k]?.map An.isE).getD false = true) ↔ an[k]? = some .e := by
  cases h : an[k]? with
  | none => simp
  | some a => cases a <;> simp [An.isE]

structure PlanAt (l : List Oper) (an : List An) (i : Nat) (o : Oper) (a : An) (ps : List Nat) : Prop where
  hAn : an[i]? = some a
  pre : (preOf l [])[i]? = some ps
  low : ∀ j ∈ onlyOn o, j < i
  clo : ∀ j ∈ ps, ∃ k ∈ onlyOn o, k = j ∨ j ∈ (preOf l []).getD k []
  look : ∀ k ok d, l[k]? = some ok → k ≠ i → ok.dst = some d → (d ∈ o.looksAt l.toArray → (k ∈ ps ∧ k < i) ∨ (i ∈ (preOf l []).getD k [] ∧ i < k)) ∧ o.dst ≠ some d
  eff : a = .e → ∀ k, k < i → an[k]? = some .e → k ∈ ps
  win : ∀ w, a = .q w → ∀ p, p ≤ l.length → pos an p = true → p ∈ w ∨ ∃ k, an[k]? = some .e ∧ ((k ∈ ps ∧ p ≤ k) ∨ (i ∈ (preOf l []).getD k [] ∧ k < p))

theorem planOk_spec {l : List Oper} {an : List An} (h : planOk l an = true) : an.length = l.length ∧ ∀ i o, l[i]? = some o → ∃ a ps, PlanAt l an i o a ps := by
  unfold planOk at h
  simp only [Bool.and_eq_true, beq_iff_eq] at h
  obtain ⟨⟨h1, h2⟩, h3⟩ := h
  refine ⟨h1, fun i o ho => ?_⟩
  have hi : i < l.length := (List.getElem?_eq_some_iff.1 ho).1
  have h4 := List.all_eq_true.1 h3 i (List.mem_range.2 hi)
  have ha : an[i]? = some an[i] := List.getElem?_eq_getElem (by omega)
  have hp : (preOf l [])[i]? = some (preOf l [])[i] := List.getElem?_eq_getElem (by omega)
  generalize hA : an[i] = a at ha
  generalize hP : (preOf l [])[i] = ps at hp
  rw [ho, ha, hp] at h4
  simp only [Bool.and_eq_true] at h4
  obtain ⟨⟨⟨c1, c2⟩, c3⟩, c4⟩ := h4
  refine ⟨a, ps, ha, hp, ?_, ?_, ?_, ?_, ?_⟩
  · intro j hj; simpa using List.all_eq_true.1 c1 j hj
  · intro j hj
    have := List.all_eq_true.1 c2 j hj
    obtain ⟨k, hk, hh⟩ := List.any_eq_true.1 this
    refine ⟨k, hk, ?_⟩
    simpa using hh
  · intro k ok d hk hne hd
    have hkl : k < l.length := (List.getElem?_eq_some_iff.1 hk).1
    have := List.all_eq_true.1 c3 k (List.mem_range.2 hkl)
    simp only [hk, Option.bind_some, hd, Bool.or_eq_true, beq_iff_eq, hne, false_or, Bool.and_eq_true, Bool.not_eq_true', decide_eq_true_eq, List.contains_eq_mem, decide_eq_false_iff_not, beq_eq_false_iff_ne] at this
    refine ⟨fun hm => ?_, this.2⟩
    rcases this.1 with (h | h) | h
    · exact absurd hm h
    · exact .inl h
    · exact .inr h
  · rintro rfl k hki hk
    have := List.all_eq_true.1 c4 k (List.mem_range.2 (by omega))
    have hE := isE_iff.2 hk
    simpa [hE, hki] using this
  · rintro w rfl p hp hpos
    have := List.all_eq_true.1 c4 p (List.mem_range.2 (by omega))
    simp only [hpos, Bool.not_true, Bool.false_or, Bool.or_eq_true] at this
    rcases this with hw | hw
    · exact .inl (by simpa using hw)
    · obtain ⟨k, _, hk⟩ := List.any_eq_true.1 hw
      simp only [Bool.and_eq_true, Bool.or_eq_true, decide_eq_true_eq, List.contains_eq_mem] at hk
      exact .inr ⟨k, isE_iff.1 hk.1, hk.2⟩

theorem filter_lt {p q : Nat → Bool} (hpq : ∀ j, q j = true → p j = true) {i : Nat} (hp : p i = true) (hq : q i = false) : ∀ (l : List Nat), i ∈ l → (l.filter q).length < (l.filter p).length
  | [], h => by cases h
  | x :: l, h => by
    have hle : ∀ l : List Nat, (l.filter q).length ≤ (l.filter p).length := by
      intro l
      induction l with
      | nil => simp
      | cons y l ih =>
        simp only [List.filter_cons]
        by_cases h1 : q y = true
        · simp [h1, hpq y h1, ih]
        · simp only [h1, if_false, Bool.false_eq_true]
          split
          · simp; omega
          · exact ih
    rcases List.mem_cons.1 h with rfl | h
    · simp only [List.filter_cons, hp, hq, if_true, Bool.false_eq_true, if_false, List.length_cons]
      have := hle l; omega
    · have ih := filter_lt hpq hp hq l h
      simp only [List.filter_cons]
      by_cases h1 : q x = true
      · simp [h1, hpq x h1, ih]
      · simp only [h1, if_false, Bool.false_eq_true]
        split
        · simp; omega
        · exact ih

/-- How a state within such a region looks. -/
structure InvE (l : List Oper) (an : List An) (f0 : Nat → AV) (S : Nat → Store) (A : Nat → AV) (listed : Array Bool) (f : Nat → AV) (σ : Store) : Prop where
  sz : listed.size = l.length
  clo : ∀ (i : Nat) (o : Oper), l[i]? = some o → listed.getD i false = true → ∀ j ∈ onlyOn o, listed.getD j false = true
  fa : ∀ (i : Nat) (o : Oper) (d : Tmp), l[i]? = some o → listed.getD i false = true → o.dst = some d → f d = A i
  fb : ∀ t : Nat, (∀ (i : Nat) (o : Oper), l[i]? = some o → listed.getD i false = true → o.dst ≠ some t) → f t = f0 t
  st : ∃ p, pos an p = true ∧ p ≤ l.length ∧ σ = S p ∧ ∀ q, an[q]? = some .e → (listed.getD q false = true ↔ q < p)

theorem ready_iff {l : List Oper} {listed : Array Bool} {j : Nat} (hsz : listed.size = l.length) : j ∈ Region.ready .any l.toArray listed ↔ listed.getD j false = false ∧ ∃ o, l[j]? = some o ∧ ∀ k ∈ onlyOn o, listed.getD k false = true := by
  rw [mem_ready]
  have e1 : ∀ o : Oper, (∀ e ∈ o.after, Region.binds .any e = true → listed.getD e.on false = true) ↔ ∀ k ∈ onlyOn o, listed.getD k false = true := by
    intro o
    unfold onlyOn
    simp only [List.mem_map, List.mem_filter, Array.mem_toList_iff]
    constructor
    · rintro h k ⟨e, ⟨h1, h2⟩, rfl⟩; exact h e h1 h2
    · intro h e h1 h2; exact h e.on ⟨e, ⟨h1, h2⟩, rfl⟩
  simp only [e1]
  constructor
  · rintro ⟨h1, o, ho, h2⟩
    have ho : l[j]? = some o := by simpa using ho
    have hj : j < listed.size := by rw [hsz]; exact (List.getElem?_eq_some_iff.1 ho).1
    exact ⟨by simpa [hj] using h1, o, ho, h2⟩
  · rintro ⟨h1, o, ho, h2⟩
    have hj : j < listed.size := by rw [hsz]; exact (List.getElem?_eq_some_iff.1 ho).1
    exact ⟨by simpa [hj] using h1, o, by simpa using ho, h2⟩

theorem pos_same {an : List An} {p q n : Nat} (hp : pos an p = true) (hq : pos an q = true) (hpn : p ≤ n) (hqn : q ≤ n) (h : ∀ k, k < n → an[k]? = some .e → (k < p ↔ k < q)) : p = q := by
  rcases Nat.lt_trichotomy p q with h1 | h1 | h1
  · cases q with
    | zero => omega
    | succ k => have := (h k (by omega) (pos_succ.1 hq)); omega
  · exact h1
  · cases p with
    | zero => omega
    | succ k => have := (h k (by omega) (pos_succ.1 hp)); omega

theorem anyE_of_plan {l : List Oper} {an : List An} (hB : planOk l an = true) {f0 : Nat → AV} {σ0 : Store} {Q : (Nat → AV) → Store → Prop} (h : aopsE E ow N l.toArray Q an l 0 0 [] [] f0 σ0) :
    anyE E ow N .any l.toArray Q l.length (Array.replicate l.length false) f0 σ0 := by
  obtain ⟨hlen, hplan⟩ := planOk_spec hB
  obtain ⟨S, A, G, F, i1, i2, i3, _, i5⟩ := aopsE_plan (ops := l.toArray) an l an 0 0 [] [] f0 σ0 (fun _ => σ0) (by simp) (by simp) (by simpa using hlen) rfl (fun p _ h => .inl (by omega)) rfl (by simp) h
  have hS0 : S 0 = σ0 := i1 0 (Nat.le_refl _)
  -- the frames in the order of the text
  have hF : ∀ i, i ≤ l.length → (∀ (k : Nat) (o : Oper) (d : Tmp), k < i → l[k]? = some o → o.dst = some d → F i d = A k) ∧ ∀ t : Nat, (∀ (k : Nat) (o : Oper), k < i → l[k]? = some o → o.dst ≠ some t) → F i t = f0 t := by
    intro i
    induction i with
    | zero => intro _; exact ⟨fun k _ _ hk => absurd hk (Nat.not_lt_zero _), fun t _ => by rw [i2]⟩
    | succ i ih =>
      intro hi
      obtain ⟨ha, hb⟩ := ih (by omega)
      have ho : l[i]? = some l[i] := List.getElem?_eq_getElem (by omega)
      obtain ⟨a, ps, hp⟩ := hplan i _ ho
      obtain ⟨_, _, hF', _⟩ := i3 i l[i] (Nat.zero_le _) (by simp)
      rw [hF']
      refine ⟨fun k o d hk hko hd => ?_, fun t ht => ?_⟩
      · by_cases hki : k = i
        · subst hki
          rw [ho] at hko
          obtain rfl := Option.some.inj hko
          simp [fput, hd, upd]
        · have := (hp.look k o d hko hki hd).2
          rw [← ha k o d (by omega) hko hd]
          exact fput_other this
      · have h1 := ht i _ (Nat.lt_succ_self _) ho
        rw [← hb t fun k o hk hko => ht k o (by omega) hko]
        exact fput_other h1
  -- everything before an operation has come up when it comes up
  have hpre : ∀ (listed : Array Bool), (∀ (i : Nat) (o : Oper), l[i]? = some o → listed.getD i false = true → ∀ j ∈ onlyOn o, listed.getD j false = true) →
      ∀ (n i : Nat) (o : Oper) (a : An) (ps : List Nat), i < n → l[i]? = some o → PlanAt l an i o a ps → (∀ j ∈ onlyOn o, listed.getD j false = true) → ∀ j ∈ ps, listed.getD j false = true := by
    intro listed hcl n
    induction n with
    | zero => intro i _ _ _ h; omega
    | succ n ih =>
      intro i o a ps hin ho hp hall j hj
      obtain ⟨k, hk, hkj⟩ := hp.clo j hj
      rcases hkj with rfl | hkj
      · exact hall k hk
      · have hki := hp.low k hk
        have hil : i < l.length := (List.getElem?_eq_some_iff.1 ho).1
        have hko : l[k]? = some l[k] := List.getElem?_eq_getElem (by omega)
        obtain ⟨a', ps', hp'⟩ := hplan k _ hko
        refine ih k _ a' ps' (by omega) hko hp' (hcl k _ hko (hall k hk)) j ?_
        simpa [List.getD, hp'.pre] using hkj
  have main : ∀ (fuel : Nat) (listed : Array Bool) (f : Nat → AV) (σ : Store), InvE l an f0 S A listed f σ → ((List.range l.length).filter fun i => !listed.getD i false).length ≤ fuel → anyE E ow N .any l.toArray Q fuel listed f σ := by
    have fin : ∀ (listed : Array Bool) (f : Nat → AV) (σ : Store), InvE l an f0 S A listed f σ → Region.ready .any l.toArray listed = [] → Q f σ := by
      intro listed f σ inv hr
      have all : ∀ n, ∀ i, i < n → i < l.length → listed.getD i false = true := by
        intro n
        induction n with
        | zero => intro i h; omega
        | succ n ih =>
          intro i hi hil
          cases hl : listed.getD i false with
          | true => rfl
          | false =>
            have ho : l[i]? = some l[i] := List.getElem?_eq_getElem hil
            obtain ⟨a, ps, hp⟩ := hplan i _ ho
            have : i ∈ Region.ready .any l.toArray listed := (ready_iff inv.sz).2 ⟨hl, _, ho, fun k hk => ih k (by have := hp.low k hk; omega) (by have := hp.low k hk; omega)⟩
            rw [hr] at this; cases this
      have all' : ∀ i, i < l.length → listed.getD i false = true := fun i hi => all l.length i hi hi
      obtain ⟨hFa, hFb⟩ := hF l.length (Nat.le_refl _)
      have hf : f = F l.length := by
        funext t
        by_cases ht : ∃ (i : Nat) (o : Oper), l[i]? = some o ∧ o.dst = some t
        · obtain ⟨i, o, ho, hd⟩ := ht
          have hil : i < l.length := (List.getElem?_eq_some_iff.1 ho).1
          rw [inv.fa i o t ho (all' i hil) hd, hFa i o t hil ho hd]
        · rw [inv.fb t fun i o ho _ hd => ht ⟨i, o, ho, hd⟩, hFb t fun i o _ ho hd => ht ⟨i, o, ho, hd⟩]
      obtain ⟨p, hp1, hp2, hp3, hp4⟩ := inv.st
      obtain ⟨q1, q2, q3⟩ := lastPos_spec an l.length
      have : p = lastPos an l.length := pos_same hp1 q1 hp2 q2 fun k hk he => by
        have h1 := (hp4 k he).1 (all' k hk)
        have h2 := q3 (k + 1) (pos_succ.2 he) (by omega)
        exact ⟨fun _ => by omega, fun _ => h1⟩
      rw [hf, hp3, this]
      rw [hlen] at i5
      exact i5
    intro fuel
    induction fuel with
    | zero =>
      intro listed f σ inv hm
      have hr : Region.ready .any l.toArray listed = [] := by
        cases hr : Region.ready .any l.toArray listed with
        | nil => rfl
        | cons j r =>
          have hj : j ∈ Region.ready .any l.toArray listed := by rw [hr]; simp
          obtain ⟨h1, o, ho, _⟩ := (ready_iff inv.sz).1 hj
          have : j ∈ (List.range l.length).filter fun i => !listed.getD i false := List.mem_filter.2 ⟨List.mem_range.2 (List.getElem?_eq_some_iff.1 ho).1, by simp [h1]⟩
          have := List.length_pos_of_mem this
          omega
      exact ⟨hr, fin listed f σ inv hr⟩
    | succ fuel ih =>
      intro listed f σ inv hm
      refine ⟨fin listed f σ inv, fun i hi => ?_⟩
      obtain ⟨hun, o, ho, hall⟩ := (ready_iff inv.sz).1 hi
      have hil : i < l.length := (List.getElem?_eq_some_iff.1 ho).1
      obtain ⟨a, ps, hp⟩ := hplan i o ho
      have hps := hpre listed inv.clo (i + 1) i o a ps (Nat.lt_succ_self _) ho hp hall
      obtain ⟨s1, s2, s3, s4, s5⟩ := i3 i o (Nat.zero_le _) (by simpa using ho)
      obtain ⟨hFa, hFb⟩ := hF i (by omega)
      have hlook : ∀ t ∈ o.looksAt l.toArray, f t = F i t := by
        intro t ht
        by_cases hex : ∃ (k : Nat) (ok : Oper), k ≠ i ∧ l[k]? = some ok ∧ ok.dst = some t
        · obtain ⟨k, ok, hki, hko, hkd⟩ := hex
          obtain ⟨h1, _⟩ := hp.look k ok t hko hki hkd
          rcases h1 ht with ⟨h2, h3⟩ | ⟨h2, h3⟩
          · rw [inv.fa k ok t hko (hps k h2) hkd, hFa k ok t h3 hko hkd]
          · obtain ⟨a', ps', hp'⟩ := hplan k ok hko
            have hone : ∀ (k' : Nat) (ok' : Oper), l[k']? = some ok' → ok'.dst = some t → k' = k := fun k' ok' hk' hd' => by
              refine Classical.byContradiction fun hne => ?_
              exact (hp'.look k' ok' t hk' hne hd').2 hkd
            have e1 : f t = f0 t := inv.fb t fun k' ok' hk' hl' hd' => by
              have := hone k' ok' hk' hd'
              subst this
              have := hpre listed inv.clo (k' + 1) k' ok a' ps' (Nat.lt_succ_self _) hko hp' (inv.clo k' ok hko hl') i (by simpa [List.getD, hp'.pre] using h2)
              rw [hun] at this; cases this
            have e2 : F i t = f0 t := hFb t fun k' ok' hk' hko' hd' => by
              have := hone k' ok' hko' hd'
              omega
            rw [e1, e2]
        · have hnone : ∀ (k : Nat) (ok : Oper), k ≠ i → l[k]? = some ok → ok.dst ≠ some t := fun k ok h1 h2 h3 => hex ⟨k, ok, h1, h2, h3⟩
          rw [inv.fb t fun k ok hko hl => hnone k ok (fun e => by subst e; rw [hun] at hl; cases hl) hko, hFb t fun k ok hk hko => hnone k ok (by omega) hko]
      have hset : ∀ j, (listed.setIfInBounds i true).getD j false = if j = i then true else listed.getD j false := by
        intro j
        have : i < listed.size := by rw [inv.sz]; exact hil
        by_cases hji : j = i
        · subst hji; simp [this]
        · rw [getD_set_ne' (Ne.symm hji)]; simp [hji]
      have hstep : ∀ σ', (∃ p, pos an p = true ∧ p ≤ l.length ∧ σ' = S p ∧ ∀ q, an[q]? = some .e → ((listed.setIfInBounds i true).getD q false = true ↔ q < p)) →
          anyE E ow N .any l.toArray Q fuel (listed.setIfInBounds i true) (fput f o.dst (A i)) σ' := by
        intro σ' hst
        refine ih _ _ _ ⟨by simpa using inv.sz, ?_, ?_, ?_, hst⟩ ?_
        · intro k ok hko hk j hj
          rw [hset] at hk ⊢
          split
          · rfl
          · split at hk
            · rename_i e; subst e
              rw [ho] at hko
              obtain rfl := Option.some.inj hko
              exact hall j hj
            · exact inv.clo k ok hko hk j hj
        · intro k ok d hko hk hd
          rw [hset] at hk
          by_cases hki : k = i
          · subst hki
            rw [ho] at hko
            obtain rfl := Option.some.inj hko
            simp [fput, hd, upd]
          · rw [if_neg hki] at hk
            rw [← inv.fa k ok d hko hk hd]
            exact fput_other (hp.look k ok d hko hki hd).2
        · intro t ht
          have h1 := ht i o ho (by rw [hset]; simp)
          rw [← inv.fb t fun k ok hko hk => ht k ok hko (by rw [hset]; split <;> first | rfl | exact hk)]
          exact fput_other h1
        · have := filter_lt (p := fun i => !listed.getD i false) (q := fun j => !(listed.setIfInBounds i true).getD j false) (i := i) (fun j hj => by
            rw [hset] at hj
            split at hj
            · cases hj
            · exact hj) (by simp [hun]) (by rw [hset]; simp) (List.range l.length) (List.mem_range.2 hil)
          omega
      obtain ⟨p, hp1, hp2, hp3, hp4⟩ := inv.st
      unfold qE
      have hoa : l.toArray[i]? = some o := by simpa using ho
      simp only [hoa]
      rw [aGuard_looks hlook, s2]
      simp only
      rw [hp.hAn] at s5
      cases a with
      | q w =>
        have hstay : ∃ p, pos an p = true ∧ p ≤ l.length ∧ σ = S p ∧ ∀ q, an[q]? = some .e → ((listed.setIfInBounds i true).getD q false = true ↔ q < p) := by
          refine ⟨p, hp1, hp2, hp3, fun q hq => ?_⟩
          rw [hset]
          have : q ≠ i := fun e => by subst e; rw [hp.hAn] at hq; cases hq
          rw [if_neg this]; exact hp4 q hq
        refine ⟨fun hg => ?_, fun hg => ?_⟩
        · have hw : p ∈ w := by
            rcases hp.win w rfl p hp2 hp1 with h1 | ⟨k, hk, ⟨h1, h2⟩ | ⟨h1, h2⟩⟩
            · exact h1
            · have := (hp4 k hk).1 (hps k h1); omega
            · have hl := (hp4 k hk).2 h2
              have hkl : k < l.length := by
                have := (List.getElem?_eq_some_iff.1 hk).1; omega
              have hko : l[k]? = some l[k] := List.getElem?_eq_getElem hkl
              obtain ⟨a', ps', hp'⟩ := hplan k _ hko
              have := hpre listed inv.clo (k + 1) k _ a' ps' (Nat.lt_succ_self _) hko hp' (inv.clo k _ hko hl) i (by simpa [List.getD, hp'.pre] using h1)
              rw [hun] at this; cases this
          have := s5 hg p hw hp1 (by omega)
          rw [← opK_looks hlook, ← hp3] at this
          exact ⟨_, _, this, aput_iff.2 ⟨s1, hstep σ hstay⟩⟩
        · rw [aput_iff, ← s4 hg]
          exact ⟨s1, hstep σ hstay⟩
      | e =>
        have hpi : p = lastPos an i := by
          obtain ⟨q1, q2, q3⟩ := lastPos_spec an i
          have hpi : p ≤ i := by
            have := (hp4 i hp.hAn)
            rw [hun] at this
            simp at this; exact this
          refine pos_same hp1 q1 hpi q2 fun k hk he => ?_
          have h1 := (hp4 k he).1 (hps k (hp.eff rfl k hk he))
          have h2 := q3 (k + 1) (pos_succ.2 he) (by omega)
          exact ⟨fun _ => by omega, fun _ => h1⟩
        have hnext : ∃ p, pos an p = true ∧ p ≤ l.length ∧ S (i + 1) = S p ∧ ∀ q, an[q]? = some .e → ((listed.setIfInBounds i true).getD q false = true ↔ q < p) := by
          refine ⟨i + 1, pos_succ.2 hp.hAn, by omega, rfl, fun q hq => ?_⟩
          rw [hset]
          by_cases hqi : q = i
          · subst hqi; simp
          · rw [if_neg hqi]
            have hql : q < l.length := by have := (List.getElem?_eq_some_iff.1 hq).1; omega
            constructor
            · intro hl
              rcases Nat.lt_or_ge q i with h1 | h1
              · omega
              · exfalso
                have hqo : l[q]? = some l[q] := List.getElem?_eq_getElem hql
                obtain ⟨a', ps', hp'⟩ := hplan q _ hqo
                have ha' : a' = .e := by have := hp'.hAn; rw [hq] at this; exact (Option.some.inj this).symm
                have := hpre listed inv.clo (q + 1) q _ a' ps' (Nat.lt_succ_self _) hqo hp' (inv.clo q _ hqo hl) i (hp'.eff ha' i (by omega) hp.hAn)
                rw [hun] at this; cases this
            · intro hlt
              exact hps q (hp.eff rfl q (by omega) hq)
        refine ⟨fun hg => ?_, fun hg => ?_⟩
        · have := s5.1 hg
          rw [← opK_looks hlook, ← hpi, ← hp3] at this
          exact ⟨_, _, this, aput_iff.2 ⟨s1, hstep _ hnext⟩⟩
        · rw [aput_iff, ← s4 hg]
          refine ⟨s1, ?_⟩
          rw [hp3, hpi, ← s5.2 hg]
          exact hstep _ hnext
  refine main l.length _ f0 σ0 ⟨by simp, ?_, ?_, fun t _ => rfl, 0, rfl, Nat.zero_le _, hS0.symm, ?_⟩ ?_
  · intro i o ho hi
    exfalso
    have := (List.getElem?_eq_some_iff.1 ho).1
    simp [this] at hi
  · intro i o d ho hi
    exfalso
    have := (List.getElem?_eq_some_iff.1 ho).1
    simp [this] at hi
  · intro q hq
    have := (List.getElem?_eq_some_iff.1 hq).1
    simp [show q < l.length by omega]
  · have := List.length_filter_le (fun i => !(Array.replicate l.length false).getD i false) (List.range l.length)
    simpa using this
end

section
variable {E : Env} {n N : Nat} {f : Nat → AV} {σ : Store} {Q : AExit → (Nat → AV) → Store → Prop}

/-- A region that draws its order; some of its operations change the store. -/
theorem AW.drawE (ow : List Nat) (an : List An) {id : Nat} {l : List Oper} (hm : E.P.follows .mixedOrders = true) (hB : planOk l an = true) (h : aopsE E ow N l.toArray (fun f σ => Q .normal f σ) an l 0 0 [] [] f σ) :
    AW E n N (.region id l.toArray true) f σ Q := by
  intro rd ds0 Γ w a hn hr ht hd
  obtain ⟨hx, hr'⟩ := hr.drew
  refine wpIn_region_any hm ?_
  refine anyE_ok (E := E) (ow := ow) (N := N) (n := n) (Γ0 := Γ) (w0 := w) (rd := rd) (ds0 := ds0) (Q := fun f σ => Q .normal f σ) ?_ ?_ _ _ f σ Γ _ a (hx.mono hn) hr' (ht.ext hx) (hd.ext hr hx) ?_
  · intro Γ' w' f' σ' a' hx' hr'' ht' hd' hq
    exact .inl ⟨Γ', f', σ', .normal, trivial, hx', hr'', ht', hd', hq⟩
  · intro v w' a' hp hm
    exact .inr ⟨v, rfl, hp, hm⟩
  · have := anyE_of_plan (E := E) (ow := ow) (N := N) hB h
    simpa using this

theorem AW.stepE (ow l : List Nat) (an : List An) {id : Nat} {ops : List Oper} {d : Code} (hm : E.P.follows .mixedOrders = true) (hB : planOk ops an = true)
    (h : ∀ K : List (Nat × AV) → Store → Prop, (∀ L σ, AW E n N d (fr L) σ Q → K L σ) → aopsE E ow N ops.toArray (fun f σ => K (pick l f) σ) an ops 0 0 [] [] f σ) :
    AW E n N (.seq (.region id ops.toArray true) d) f σ Q :=
  AW.seqL l fun K hK => AW.drawE ow an hm hB (h K hK)
end

/-! ### The walk, as simp sees it -/
section
variable {E : Env} {ow : List Nat} {N : Nat} {ops : Array Oper} {Q : (Nat → AV) → Store → Prop}
@[simp] theorem oblA_nil (o : Oper) (f : Nat → AV) (a : AV) (ps : List Nat) : oblA E ow o f a ps [] = True := (rfl)
@[simp] theorem oblA_cons (o : Oper) (f : Nat → AV) (a : AV) (ps : List Nat) (x : Nat × Store) (l : List (Nat × Store)) : oblA E ow o f a ps (x :: l) = ((x.1 ∈ ps → opK E ow o f x.2 (kontS x.2 (· = a))) ∧ oblA E ow o f a ps l) := by
  unfold oblA
  simp only [eq_iff_iff]
  refine and_congr (imp_congr_right fun _ => ?_) ?_
  · rw [show (fun a' σ' => a' = a ∧ σ' = x.2) = kontS x.2 (· = a) from by funext a' σ'; simp [kontS, and_comm]]
  · cases l <;> rfl
@[simp] theorem oblB_nil (p : Nat) (σ : Store) : oblB E ow p σ [] = True := (rfl)
@[simp] theorem oblB_cons (p : Nat) (σ : Store) (x : Pend) (l : List Pend) : oblB E ow p σ (x :: l) = ((p ∈ x.ps → opK E ow x.o x.f σ (kontS σ (· = x.a))) ∧ oblB E ow p σ l) := by
  unfold oblB
  simp only [eq_iff_iff]
  refine and_congr (imp_congr_right fun _ => ?_) ?_
  · rw [show (fun a' σ' => a' = x.a ∧ σ' = σ) = kontS σ (· = x.a) from by funext a' σ'; simp [kontS, and_comm]]
  · cases l <;> rfl

/-- The rest of the walk, behind an answer. -/
def putE (E : Env) (ow : List Nat) (N : Nat) (ops : Array Oper) (Q : (Nat → AV) → Store → Prop) (an : List An) (l : List Oper) (k cur : Nat) (past : List (Nat × Store)) (pend : List Pend) (f : Nat → AV) (σ : Store) (d : Option Tmp) (a : AV) : Prop :=
  aput N f d a fun f' => aopsE E ow N ops Q an l k cur past pend f' σ
@[simp] theorem putE_some (an : List An) (l : List Oper) (k cur : Nat) (past : List (Nat × Store)) (pend : List Pend) (f : Nat → AV) (σ : Store) (d : Tmp) (a : AV) : putE E ow N ops Q an l k cur past pend f σ (some d) a = (d < N ∧ aopsE E ow N ops Q an l k cur past pend (upd f d a) σ) := (rfl)
@[simp] theorem putE_none (an : List An) (l : List Oper) (k cur : Nat) (past : List (Nat × Store)) (pend : List Pend) (f : Nat → AV) (σ : Store) (a : AV) : putE E ow N ops Q an l k cur past pend f σ none a = aopsE E ow N ops Q an l k cur past pend f σ := (rfl)

@[simp] theorem pureOp_eq (ow : List Nat) (o : Oper) : pureOp ow o = (match o.op with
  | .assign x => !(isNil x && (o.dst.map fun d => ow.contains (d + 3000000)).getD false) && !(isNil x && (o.dst.map fun d => ow.contains (d + 4000000)).getD false)
  | .move _ | .pick .. | .build .. | .nilCheck _ | .binOp .. | .unOp .. | .makeInterface .. | .makeFunc .. | .fieldAddr .. | .field .. | .index .. | .extract .. => true
  | .buildSlice .. => (ownN ow o.dst == 0)
  | _ => false) := rfl

def kontQ (E : Env) (ow : List Nat) (N : Nat) (ops : Array Oper) (Q : (Nat → AV) → Store → Prop) (ps : List Nat) (an : List An) (o : Oper) (l : List Oper) (k cur : Nat) (past : List (Nat × Store)) (pend : List Pend) (f : Nat → AV) (σ : Store) (a : AV) : Prop :=
  (pureOp ow o = false → oblA E ow o f a ps past) ∧ aput N f o.dst a fun f' => aopsE E ow N ops Q an l (k + 1) cur past (if pureOp ow o = true then pend else ⟨ps, o, f, a⟩ :: pend) f' σ
@[simp] theorem kontQ_eq (ps : List Nat) (an : List An) (o : Oper) (l : List Oper) (k cur : Nat) (past : List (Nat × Store)) (pend : List Pend) (f : Nat → AV) (σ : Store) (a : AV) : kontQ E ow N ops Q ps an o l k cur past pend f σ a =
    (if pureOp ow o = true then putE E ow N ops Q an l (k + 1) cur past pend f σ o.dst a
    else (oblA E ow o f a ps past ∧ putE E ow N ops Q an l (k + 1) cur past (⟨ps, o, f, a⟩ :: pend) f σ o.dst a)) := by
  unfold kontQ putE
  cases pureOp ow o <;> simp
def kontE (E : Env) (ow : List Nat) (N : Nat) (ops : Array Oper) (Q : (Nat → AV) → Store → Prop) (an : List An) (o : Oper) (l : List Oper) (k cur : Nat) (past : List (Nat × Store)) (pend : List Pend) (f : Nat → AV) (σ : Store) (a : AV) (σ' : Store) : Prop :=
  oblB E ow (k + 1) σ' pend ∧ aput N f o.dst a fun f' => aopsE E ow N ops Q an l (k + 1) (k + 1) ((cur, σ) :: past) pend f' σ'
@[simp] theorem kontE_eq (an : List An) (o : Oper) (l : List Oper) (k cur : Nat) (past : List (Nat × Store)) (pend : List Pend) (f : Nat → AV) (σ : Store) (a : AV) (σ' : Store) : kontE E ow N ops Q an o l k cur past pend f σ a σ' =
  (oblB E ow (k + 1) σ' pend ∧ putE E ow N ops Q an l (k + 1) (k + 1) ((cur, σ) :: past) pend f σ' o.dst a) := rfl

def stuckE (E : Env) (ow : List Nat) (N : Nat) (ops : Array Oper) (Q : (Nat → AV) → Store → Prop) (an : List An) (l : List Oper) (k cur : Nat) (past : List (Nat × Store)) (pend : List Pend) (f : Nat → AV) (σ : Store) : Prop := aopsE E ow N ops Q an l k cur past pend f σ
@[simp] theorem aopsE_nil (an : List An) (k cur : Nat) (past : List (Nat × Store)) (pend : List Pend) (f : Nat → AV) (σ : Store) : aopsE E ow N ops Q an [] k cur past pend f σ = Q f σ := by cases an <;> (try rename_i a b; cases a) <;> rfl
theorem aopsE_q (ps : List Nat) (an : List An) (o : Oper) (l : List Oper) (k cur : Nat) (past : List (Nat × Store)) (pend : List Pend) (f : Nat → AV) (σ : Store) :
    aopsE E ow N ops Q (.q ps :: an) (o :: l) k cur past pend f σ = (if aGuard ops f o = some true then opR E ow o f σ (kontQ E ow N ops Q ps an o l k cur past pend f σ) else if aGuard ops f o = some false then putE E ow N ops Q an l (k + 1) cur past pend f σ o.dst (.tup []) else stuckE E ow N ops Q (.q ps :: an) (o :: l) k cur past pend f σ) := by
  split
  · rename_i h; rw [aopsE, h]; simp only [true_implies, Bool.true_eq_false, false_implies, and_true]; rfl
  · split
    · rename_i h; rw [aopsE, h]; simp only [true_implies, Bool.false_eq_true, false_implies, true_and]; rfl
    · rfl
theorem aopsE_e (an : List An) (o : Oper) (l : List Oper) (k cur : Nat) (past : List (Nat × Store)) (pend : List Pend) (f : Nat → AV) (σ : Store) :
    aopsE E ow N ops Q (.e :: an) (o :: l) k cur past pend f σ = (if aGuard ops f o = some true then opD E ow o f σ (kontE E ow N ops Q an o l k cur past pend f σ) else if aGuard ops f o = some false then kontE E ow N ops Q an o l k cur past pend f σ (.tup []) σ else stuckE E ow N ops Q (.e :: an) (o :: l) k cur past pend f σ) := by
  split
  · rename_i h; rw [aopsE, h]; simp only [true_implies, Bool.true_eq_false, false_implies, and_true]; rfl
  · split
    · rename_i h; rw [aopsE, h]; simp only [true_implies, Bool.false_eq_true, false_implies, true_and]; rfl
    · rfl

def callD (E : Env) (k : FuncId) (args : List AV) (σ : Store) (K : AV → Store → Prop) : Prop := ∃ a σ1, ACalls E k args σ (fun r σ' => r = a ∧ σ' = σ1) ∧ K a σ1
theorem callD_of {k : FuncId} {args : List AV} {σ σ1 : Store} {K : AV → Store → Prop} {a : AV} (h : ACalls E k args σ fun r σ' => r = a ∧ σ' = σ1) (hk : K a σ1) : callD E k args σ K := ⟨a, σ1, h, hk⟩
@[simp] theorem opD_eq (o : Oper) (f : Nat → AV) (σ : Store) (K : AV → Store → Prop) : opD E ow o f σ K = (match o.op with
  | .call c => (match c.callee with
    | .value g => (match aeval E.G f g with
      | .fn (.func k) first cap => if callable E.P k = true then callD E k (first ++ c.args.toList.map (fun x => argV ow k (aeval E.G f x)) ++ cap) σ K else ∃ a σ1, AExt E k (first ++ c.args.toList.map (aeval E.G f) ++ cap) σ (fun a' σ' => a' = a ∧ σ' = σ1) ∧ K a σ1
      | .fn (.yield b) [] [] => ∃ a σ1, AYield E b (c.args.toList.map fun x => frz (aeval E.G f x)) σ (fun a' σ' => a' = a ∧ σ' = σ1) ∧ K a σ1
      | _ => False)
    | .invoke r m => (match aeval E.G f r with
      | .ifc t v => (match methodOf E.P t m with
        | some k => callable E.P k = true ∧ callD E k (v :: c.args.toList.map (fun x => argV ow k (aeval E.G f x))) σ K
        | none => False)
      | _ => False)
    | _ => opK E ow o f σ K)
  | .next .. => ∃ a σ1, opK E ow o f σ (fun a' σ' => a' = a ∧ σ' = σ1) ∧ K a σ1
  | .binOp op t x y _ => if isNil y = true then ∃ a, (aNilEq E op t (aeval E.G f x).rd fun a' => a' = a) ∧ K a σ else opK E ow o f σ K
  | _ => opK E ow o f σ K) := by
  apply propext
  obtain ⟨dst, op, ty, pos, after, guard⟩ := o
  unfold opD
  cases op <;> try first | (simp only [byVal, Bool.false_eq_true, if_false]; done) | (simp only [byVal, if_true]; done)
  case binOp op t x y yt =>
    by_cases hn : isNil y = true
    rotate_left
    · refine Iff.trans (iff_of_eq (if_neg (show ¬ byVal ⟨dst, .binOp op t x y yt, ty, pos, after, guard⟩ = true from hn))) (Iff.trans ?_ (iff_of_eq (if_neg hn)).symm)
      exact Iff.rfl
    · refine Iff.trans (iff_of_eq (if_pos (show byVal ⟨dst, .binOp op t x y yt, ty, pos, after, guard⟩ = true from hn))) (Iff.trans ?_ (iff_of_eq (if_pos hn)).symm)
      simp only [opK, if_pos hn]
      constructor
      · rintro ⟨a, σ1, h1, h2⟩
        have hs : σ = σ1 ∧ aNilEq E op t (aeval E.G f x).rd fun a' => a' = a := by
          unfold aNilEq at *
          split at h1 <;> first | exact h1.elim | skip
          all_goals split at h1 <;> first | exact h1.elim | (exact ⟨h1.2, h1.1⟩) | (exact ⟨(h1 true).2, fun b => (h1 b).1⟩)
        obtain ⟨rfl, h3⟩ := hs
        exact ⟨a, h3, h2⟩
      · rintro ⟨a, h1, h2⟩; exact ⟨a, σ, by simpa using h1, h2⟩
  rename_i c
  obtain ⟨callee, args, argTypes⟩ := c
  cases callee <;> try (simp only [byVal, Bool.false_eq_true, if_false]; done)
  · rename_i g
    simp only [byVal, if_true, opK, aCall]
    cases aeval E.G f g <;> try (simp; done)
    rename_i fn first cap
    cases fn <;> first | (simp; done) | skip
    · rename_i k
      simp only [callD]
      split <;> exact Iff.rfl
    · cases first <;> cases cap <;> first | exact Iff.rfl | (simp; done)
  · rename_i r m
    simp only [byVal, if_true, opK, aCall]
    cases aeval E.G f r <;> try (simp; done)
    rename_i t v
    simp only
    cases methodOf E.P t m with
    | none => simp
    | some k =>
      simp only [callD]
      constructor
      · rintro ⟨a, σ1, ⟨h1, h2⟩, h3⟩; exact ⟨h1, a, σ1, h2, h3⟩
      · rintro ⟨h1, a, σ1, h2, h3⟩; exact ⟨a, σ1, ⟨h1, h2⟩, h3⟩
end
end Go.AW
