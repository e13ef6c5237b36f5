/- Long regions that draw their order and leave the store alone: the walk keeps only what is read later. No condition. -/
import Derived.Test.YtkbklfodaemkoaaDoorAw18
set_option linter.unusedVariables false
set_option linter.unusedSimpArgs false
set_option linter.unnecessarySimpa false
namespace Go.AW
open Go

/-- Each operation reads only what is kept; behind it these are kept. -/
def lvOk (fin : List Nat) (ops : Array Oper) : List Nat → List (List Nat) → List Oper → Bool
  | S, _, [] => fin.all S.contains
  | S, lv :: lvs, o :: l => (o.looksAt ops).all S.contains && lv.all (fun t => o.dst == some t || S.contains t) && lvOk fin ops lv lvs l
  | _, [], _ :: _ => false

theorem fr_pick_mem {l : List Nat} {f : Nat → AV} {t : Nat} (h : t ∈ l) : fr (pick l f) t = f t := by
  induction l with
  | nil => cases h
  | cons s l ih =>
    rw [pick_cons]
    unfold fr
    by_cases e : t = s
    · subst e; simp
    · simp only [e, if_false]
      rcases List.mem_cons.1 h with h | h
      · exact absurd h e
      · exact ih h

section
variable {E : Env} {ow : List Nat} {N : Nat} {ops : Array Oper} {σ : Store} {Q : (Nat → AV) → Prop}

def aopsRP (E : Env) (ow : List Nat) (N : Nat) (ops : Array Oper) (σ : Store) (Q : (Nat → AV) → Prop) : List (List Nat) → List Oper → (Nat → AV) → Prop
  | _, [], f => Q f
  | lv :: lvs, o :: l, f => (match aGuard ops f o with
    | some g => (g = true → opR E ow o f σ fun a => aput N f o.dst a fun f' => aopsRP E ow N ops σ Q lvs l (fr (pick lv f'))) ∧ (g = false → aput N f o.dst (.tup []) fun f' => aopsRP E ow N ops σ Q lvs l (fr (pick lv f')))
    | none => False)
  | [], _ :: _, _ => False

theorem aopsRP_ok {fin : List Nat} (hQ : ∀ f g : Nat → AV, (∀ t ∈ fin, f t = g t) → Q f → Q g) : ∀ (l : List Oper) (lvs : List (List Nat)) (S : List Nat) (f g : Nat → AV), lvOk fin ops S lvs l = true → (∀ t ∈ S, f t = g t) → aopsRP E ow N ops σ Q lvs l f → aopsQ E ow N ops σ Q l g
  | [], lvs, S, f, g, hB, hfg, h => by
    have hB : fin.all S.contains = true := by cases lvs <;> exact hB
    have h : Q f := by cases lvs <;> exact h
    exact hQ f g (fun t ht => hfg t (by simpa using List.all_eq_true.1 hB t ht)) h
  | o :: l, [], S, f, g, hB, hfg, h => h.elim
  | o :: l, lv :: lvs, S, f, g, hB, hfg, h => by
    simp only [lvOk, Bool.and_eq_true] at hB
    obtain ⟨⟨h1, h2⟩, h3⟩ := hB
    have hlook : ∀ t ∈ o.looksAt ops, f t = g t := fun t ht => hfg t (by simpa using List.all_eq_true.1 h1 t ht)
    have hnext : ∀ a : AV, ∀ t ∈ lv, fr (pick lv (fput f o.dst a)) t = fput g o.dst a t := fun a t ht => by
      rw [fr_pick_mem ht]
      have := List.all_eq_true.1 h2 t ht
      simp only [Bool.or_eq_true, beq_iff_eq] at this
      by_cases hd : o.dst = some t
      · rw [hd]; simp [fput, upd]
      · rw [fput_other hd, fput_other hd]
        exact hfg t (by simpa using this.resolve_left hd)
    unfold aopsRP at h
    unfold aopsQ
    rw [← aGuard_looks hlook]
    cases hg : aGuard ops f o with
    | none => rw [hg] at h; exact h.elim
    | some b =>
      rw [hg] at h
      refine ⟨fun hb => ?_, fun hb => ?_⟩
      · obtain ⟨a, k1, k2⟩ := opR_ok (h.1 hb)
        obtain ⟨k3, k4⟩ := aput_iff.1 k2
        rw [opK_looks hlook] at k1
        exact ⟨a, k1, aput_iff.2 ⟨k3, aopsRP_ok hQ l lvs lv _ _ h3 (hnext a) k4⟩⟩
      · obtain ⟨k3, k4⟩ := aput_iff.1 (h.2 hb)
        exact aput_iff.2 ⟨k3, aopsRP_ok hQ l lvs lv _ _ h3 (hnext _) k4⟩

/-- One operation at a time: it comes up. -/
theorem rp_go {lv : List Nat} {lvs : List (List Nat)} {o : Oper} {l : List Oper} {f : Nat → AV} (hg : aGuard ops f o = some true) (d : Tmp) (hd : o.dst = some d) (hN : d < N)
    (h : ∀ K : AV → Prop, (∀ (a : AV) (L : List (Nat × AV)), pick lv (upd f d a) = L → aopsRP E ow N ops σ Q lvs l (fr L) → K a) → opR E ow o f σ K) : aopsRP E ow N ops σ Q (lv :: lvs) (o :: l) f := by
  unfold aopsRP
  rw [hg]
  refine ⟨fun _ => ?_, fun e => nomatch e⟩
  rw [hd]
  exact h _ fun a L e hL => ⟨hN, by subst e; exact hL⟩

/-- .. or it does not. -/
theorem rp_no {lv : List Nat} {lvs : List (List Nat)} {o : Oper} {l : List Oper} {f : Nat → AV} (hg : aGuard ops f o = some false) (d : Tmp) (hd : o.dst = some d) (hN : d < N) (L : List (Nat × AV)) (hL : pick lv (upd f d (.tup [])) = L)
    (h : aopsRP E ow N ops σ Q lvs l (fr L)) : aopsRP E ow N ops σ Q (lv :: lvs) (o :: l) f := by
  unfold aopsRP
  rw [hg]
  refine ⟨fun e => (nomatch e), fun _ => ?_⟩
  rw [hd]
  subst hL
  exact ⟨hN, h⟩

theorem rp_end {lvs : List (List Nat)} {f : Nat → AV} (h : Q f) : aopsRP E ow N ops σ Q lvs [] f := by cases lvs <;> exact h

def kontP (E : Env) (ow : List Nat) (N : Nat) (ops : Array Oper) (σ : Store) (Q : (Nat → AV) → Prop) (lv : List Nat) (lvs : List (List Nat)) (l : List Oper) (d : Option Tmp) (f : Nat → AV) (a : AV) : Prop := aput N f d a fun f' => aopsRP E ow N ops σ Q lvs l (fr (pick lv f'))
@[simp] theorem kontP_some (lv : List Nat) (lvs : List (List Nat)) (l : List Oper) (d : Tmp) (f : Nat → AV) (a : AV) : kontP E ow N ops σ Q lv lvs l (some d) f a = (d < N ∧ aopsRP E ow N ops σ Q lvs l (fr (pick lv (upd f d a)))) := rfl
@[simp] theorem kontP_none (lv : List Nat) (lvs : List (List Nat)) (l : List Oper) (f : Nat → AV) (a : AV) : kontP E ow N ops σ Q lv lvs l none f a = aopsRP E ow N ops σ Q lvs l (fr (pick lv f)) := rfl
def stuckP (E : Env) (ow : List Nat) (N : Nat) (ops : Array Oper) (σ : Store) (Q : (Nat → AV) → Prop) (lvs : List (List Nat)) (l : List Oper) (f : Nat → AV) : Prop := aopsRP E ow N ops σ Q lvs l f
@[simp] theorem aopsRP_nil (lvs : List (List Nat)) (f : Nat → AV) : aopsRP E ow N ops σ Q lvs [] f = Q f := by cases lvs <;> rfl
@[simp] theorem aopsRP_cons (lv : List Nat) (lvs : List (List Nat)) (o : Oper) (l : List Oper) (f : Nat → AV) :
    aopsRP E ow N ops σ Q (lv :: lvs) (o :: l) f = if aGuard ops f o = some true then opR E ow o f σ (kontP E ow N ops σ Q lv lvs l o.dst f) else if aGuard ops f o = some false then kontP E ow N ops σ Q lv lvs l o.dst f (.tup []) else stuckP E ow N ops σ Q (lv :: lvs) (o :: l) f := by
  split
  · rename_i h; rw [aopsRP, h]; simp only [true_implies, Bool.true_eq_false, false_implies, and_true]; rfl
  · split
    · rename_i h; rw [aopsRP, h]; simp only [true_implies, Bool.false_eq_true, false_implies, true_and]; rfl
    · rfl
end

/-! ### The plain walk, one operation at a time -/
section
variable {E : Env} {ow : List Nat} {N : Nat} {ops : Array Oper} {σ : Store} {K : (Nat → AV) → Store → Prop} {o : Oper} {l : List Oper}
theorem upd_fr (L : List (Nat × AV)) (d : Nat) (a : AV) : upd (fr L) d a = fr ((d, a) :: L) := by funext t; rfl
theorem ops_go {L : List (Nat × AV)} (hg : aGuard ops (fr L) o = some true) (d : Tmp) (hd : o.dst = some d) (hN : d < N)
    (h : ∀ K' : AV → Store → Prop, (∀ a σ', aops E ow N ops l (fr ((d, a) :: L)) σ' K → K' a σ') → opK E ow o (fr L) σ K') : aops E ow N ops (o :: l) (fr L) σ K := by
  rw [aops, hg]
  refine ⟨fun _ => ?_, fun e => nomatch e⟩
  rw [hd]
  exact h _ fun a σ' ha => ⟨hN, by rw [upd_fr]; exact ha⟩
theorem ops_go0 {L : List (Nat × AV)} (hg : aGuard ops (fr L) o = some true) (hd : o.dst = none)
    (h : ∀ K' : AV → Store → Prop, (∀ a σ', aops E ow N ops l (fr L) σ' K → K' a σ') → opK E ow o (fr L) σ K') : aops E ow N ops (o :: l) (fr L) σ K := by
  rw [aops, hg]
  refine ⟨fun _ => ?_, fun e => nomatch e⟩
  rw [hd]
  exact h _ fun a σ' ha => ha
theorem ops_no {L : List (Nat × AV)} (hg : aGuard ops (fr L) o = some false) (d : Tmp) (hd : o.dst = some d) (hN : d < N) (h : aops E ow N ops l (fr ((d, .tup []) :: L)) σ K) : aops E ow N ops (o :: l) (fr L) σ K := by
  rw [aops, hg]
  refine ⟨fun e => (nomatch e), fun _ => ?_⟩
  rw [hd]
  exact ⟨hN, by rw [upd_fr]; exact h⟩
theorem ops_no0 {L : List (Nat × AV)} (hg : aGuard ops (fr L) o = some false) (hd : o.dst = none) (h : aops E ow N ops l (fr L) σ K) : aops E ow N ops (o :: l) (fr L) σ K := by
  rw [aops, hg]
  refine ⟨fun e => (nomatch e), fun _ => ?_⟩
  rw [hd]
  exact h
theorem ops_end {f : Nat → AV} (h : K f σ) : aops E ow N ops [] f σ K := h
end

section
variable {E : Env} {n N : Nat} {f : Nat → AV} {σ : Store} {Q : AExit → (Nat → AV) → Store → Prop}
theorem pick_agree {l : List Nat} {f g : Nat → AV} (h : ∀ t ∈ l, f t = g t) : pick l f = pick l g := by
  unfold pick
  exact List.map_congr_left fun t ht => by rw [h t ht]

theorem AW.stepRP (ow l : List Nat) (S : List Nat) (lvs : List (List Nat)) {id : Nat} {ops : List Oper} {d : Code} (hm : E.P.follows .mixedOrders = true) (hB : Region.lexFrom .any ops.toArray ops.length 0 (Array.replicate ops.length false) = true)
    (hL : lvOk l ops.toArray S lvs ops = true)
    (h : ∀ K : List (Nat × AV) → Store → Prop, (∀ L σ, AW E n N d (fr L) σ Q → K L σ) → aopsRP E ow N ops.toArray σ (fun f => K (pick l f) σ) lvs ops (fr (pick S f))) :
    AW E n N (.seq (.region id ops.toArray true) d) f σ Q :=
  AW.seqL l fun K hK => AW.draw ow hm hB (aopsRP_ok (fin := l) (fun f g hfg hq => by show K (pick l g) σ; rw [← pick_agree hfg]; exact hq) ops lvs S _ _ hL (fun t ht => fr_pick_mem ht) (h K hK))
end
end Go.AW
