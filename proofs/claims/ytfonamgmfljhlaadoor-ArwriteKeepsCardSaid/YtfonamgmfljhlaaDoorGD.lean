/- Merged texts, in order: Code with what a walk wants beside it (the variables that are read later, the plan of regions that draw their order), and the condition of a walk as one term that a simplifier opens. No condition. | Functions that leave the store as it was; loops; what is handed back. No condition. | What the simplifier knows of the conditions of operations, in the form that leaves plain conditions. No condition. | A slice of the store at a call's entry: its capacity is some number. slices.overlaps at a slice of the store and another one that is only read. No condition. | Contracts of the library's functions, as the walks want them. No condition. | Ranges over functions: the rounds, the statement. No condition. | Growing rows in cells of objects; loops whose rounds choose what they leave behind; what unsafe.String leaves behind. No condition. | Ranges over functions, as a walk takes them. No condition. | Functions that defer a closure which recovers. No condition. | Deferred closures that recover. No condition. | A result that the callee made anew is the caller's own: it may be written. No condition. -/
import Derived.Test.YtfonamgmfljhlaaDoorGC
import Derived.KernelRfl
import Derived.Laws.Externs
import Derived.Lib.LaidTab
import Derived.Below
import Derived.Lib.UnsafeStr
import Derived.RecoverIn
section
set_option linter.unusedVariables false
set_option linter.unusedSimpArgs false
set_option linter.unnecessarySimpa false
namespace Go.AW
open Go

inductive ACode where
  | skip
  | reg (id : Nat) (ops : List Oper)
  | drw (id : Nat) (ops : List Oper) (an : List An)
  | drf (id : Nat) (ops : List Oper) (f0 : Nat) (cs : List Nat) (alts : List (List Oper × List An))
  | seq (lv : List Nat) (a b : ACode)
  | cond (c : Operand) (a b : ACode)
  | block (id : Nat) (body : ACode)
  | loop (lv : List Nat) (body : ACode)
  | exit (id : Nat)
  | scope (body : ACode)
  | label (l : Nat)
  | ret
  | rfn (g : Operand) (ps : Array Tmp) (lv : List Nat) (a b : ACode)
  | other (c : Code)

def ACode.er : ACode → Code
  | .skip => .skip
  | .reg id ops => .region id ops.toArray false
  | .drw id ops _ => .region id ops.toArray true
  | .drf id ops _ _ _ => .region id ops.toArray true
  | .seq _ a b => .seq a.er b.er
  | .cond c a b => .cond c a.er b.er
  | .block id c => .block id c.er
  | .loop _ c => .loop c.er
  | .exit id => .exit id
  | .scope c => .scope c.er
  | .label l => .label l
  | .ret => .ret
  | .rfn g ps _ a b => .rangeFunc g ps a.er b.er
  | .other c => c

/-! ### What is read later -/
def insN (x : Nat) : List Nat → List Nat
  | [] => [x]
  | y :: l => if x < y then x :: y :: l else if x = y then y :: l else y :: insN x l
def unionN (a b : List Nat) : List Nat := a.foldl (fun l x => insN x l) b
def Operand.tmpsL : Operand → List Nat
  | .tmp t => [t]
  | _ => []
def opTmps (o : Oper) : List Nat := o.op.operands.toList.flatMap Operand.tmpsL
def liveOps (out : List Nat) : List Oper → List Nat
  | [] => out
  | o :: l =>
    let r := liveOps out l
    let r := match o.dst with
      | some d => r.filter (· != d)
      | none => r
    (opTmps o).foldl (fun l x => insN x l) r
def live (res : List Nat) : Code → List Nat → List (Nat × List Nat) → List Nat
  | .seq a b, out, ex => live res a (live res b out ex) ex
  | .region _ ops _, out, _ => liveOps out ops.toList
  | .cond c a b, out, ex => unionN (Operand.tmpsL c) (unionN (live res a out ex) (live res b out ex))
  | .block id c, out, ex => live res c out ((id, out) :: ex)
  | .loop c, _, ex => let l1 := live res c [] ex; let l2 := unionN l1 (live res c l1 ex); unionN l2 (live res c l2 ex)
  | .exit id, _, ex => (ex.lookup id).getD []
  | .scope c, out, ex => live res c out ex
  | .ret, _, _ => res
  | .rangeFunc g _ a b, out, ex => unionN out (unionN (Operand.tmpsL g) (live res a (live res b [] ex) ex))
  | _, out, _ => out

/-! ### The plan of a region that draws its order -/
def isQ (ow : List Nat) (o : Oper) : Bool := match o.op with
  | .store .. | .alloc _ | .box .. | .makeSlice .. | .makeMap .. | .mapUpdate .. | .insert .. | .mapEntry .. | .entryStore .. | .range .. | .next .. => false
  | .call c => match c.callee with
    | .builtin .len | .builtin .cap | .builtin .min | .builtin .max => true
    | .builtin .append => ownN ow o.dst == 3
    | .value (.func k) => ow.contains (k + 6000000)
    | _ => false
  | .assign x => !(isNil x && (o.dst.map fun d => ow.contains (d + 3000000)).getD false) && !(isNil x && (o.dst.map fun d => ow.contains (d + 4000000)).getD false)
  | .buildSlice .. | .convert .. => (ownN ow o.dst == 0)
  | _ => true
/-- What comes ahead of each operation, as sets of bits. -/
def preB : List Oper → List Nat → List Nat
  | [], acc => acc
  | o :: l, acc => preB l (acc ++ [(onlyOn o).foldl (fun m j => m ||| (acc.getD j 0) ||| (1 <<< j)) 0])
def annOf (ow : List Nat) (l : List Oper) : List An :=
  let pre := preB l []
  let eff := ((List.range l.length).zip l).filterMap fun x => if isQ ow x.2 then none else some x.1
  let effP := eff.map fun k => (k, pre.getD k 0)
  let ps := 0 :: eff.map (· + 1)
  ((List.range l.length).zip pre).map fun x =>
    if eff.contains x.1 then .e else
      let lo := eff.foldl (fun m k => if Nat.testBit x.2 k then max m (k + 1) else m) 0
      let hi := effP.foldl (fun m k => if Nat.testBit k.2 x.1 then min m k.1 else m) (l.length + 1)
      .q (ps.filter fun p => decide (lo ≤ p) && decide (p ≤ hi))

/-- An operation that makes a variable and may come up ahead of or behind others that change the store: itself and those. -/
def isAlloc (o : Oper) : Bool := match o.op with
  | .alloc _ => true
  | _ => false
def floatOf (ow : List Nat) (l : List Oper) : Option (Nat × List Nat) :=
  match l.any isAlloc with
  | false => none
  | true =>
    let pre := preB l []
    let eff := ((List.range l.length).zip l).filterMap fun x => if isQ ow x.2 then none else some x.1
    let cand := (eff.filter fun i => (l[i]?.map isAlloc).getD false).map fun i => (i, eff.filter fun k => k != i && !Nat.testBit (pre.getD i 0) k && !Nat.testBit (pre.getD k 0) i)
    cand.find? fun x => !x.2.isEmpty
def annot (ow res : List Nat) : Code → List Nat → List (Nat × List Nat) → ACode
  | .skip, _, _ => .skip
  | .region id ops false, _, _ => .reg id ops.toList
  | .region id ops true, _, _ => (match floatOf ow ops.toList with
    | none => .drw id ops.toList (annOf ow ops.toList)
    | some x => .drf id ops.toList x.1 x.2 ((List.range (x.2.length + 1)).map fun j => (altOf ops.toList x.1 x.2 j, annOf ow (altOf ops.toList x.1 x.2 j))))
  | .seq a b, out, ex => let lb := live res b out ex; .seq lb (annot ow res a lb ex) (annot ow res b out ex)
  | .cond c a b, out, ex => .cond c (annot ow res a out ex) (annot ow res b out ex)
  | .block id c, out, ex => .block id (annot ow res c out ((id, out) :: ex))
  | .loop c, out, ex => let l := live res (.loop c) out ex; .loop l (annot ow res c l ex)
  | .exit id, _, _ => .exit id
  | .scope c, out, ex => .scope (annot ow res c out ex)
  | .label l, _, _ => .label l
  | .ret, _, _ => .ret
  | .rangeFunc g ps a b, _, ex => let lb := live res b [] ex; .rfn g ps lb (annot ow res a lb ex) (annot ow res b [] ex)
  | c, _, _ => .other c

theorem er_annot (ow res : List Nat) : ∀ (c : Code) (out : List Nat) (ex : List (Nat × List Nat)), (annot ow res c out ex).er = c := by
  intro c
  induction c with
  | region id ops d =>
    intro out ex
    cases d
    · simp [annot, ACode.er]
    · simp only [annot]
      split <;> simp [ACode.er]
  | seq a b ha hb => intro out ex; simp [annot, ACode.er, ha, hb]
  | cond c a b ha hb => intro out ex; simp [annot, ACode.er, ha, hb]
  | block id c h => intro out ex; simp [annot, ACode.er, h]
  | loop c h => intro out ex; simp [annot, ACode.er, h]
  | scope c h => intro out ex; simp [annot, ACode.er, h]
  | rangeFunc g ps a b ha hb => intro out ex; simp [annot, ACode.er, ha, hb]
  | _ => intros; rfl

/-- The lists of operations that stand beside regions with a floating operation, and those that ought to. -/
def givenF : ACode → List (List (List Oper))
  | .drf _ _ _ _ alts => [alts.map (·.1)]
  | .seq _ a b => givenF a ++ givenF b
  | .cond _ a b => givenF a ++ givenF b
  | .block _ c => givenF c
  | .loop _ c => givenF c
  | .scope c => givenF c
  | .rfn _ _ _ a b => givenF a ++ givenF b
  | _ => []
def madeF : ACode → List (List (List Oper))
  | .drf _ ops f0 cs _ => [(List.range (cs.length + 1)).map (altOf ops f0 cs)]
  | .seq _ a b => madeF a ++ madeF b
  | .cond _ a b => madeF a ++ madeF b
  | .block _ c => madeF c
  | .loop _ c => madeF c
  | .scope c => madeF c
  | .rfn _ _ _ a b => madeF a ++ madeF b
  | _ => []
theorem givenF_len : ∀ c : ACode, (givenF c).length = (madeF c).length := by
  intro c
  induction c <;> simp_all [givenF, madeF]
def drawsOk : ACode → Bool
  | .drf _ ops f0 cs alts => floatOk ops f0 cs && alts.all fun a => planOk a.1 a.2
  | .drw _ ops an => planOk ops an
  | .seq _ a b => drawsOk a && drawsOk b
  | .cond _ a b => drawsOk a && drawsOk b
  | .block _ c => drawsOk c
  | .loop _ c => drawsOk c
  | .scope c => drawsOk c
  | .rfn _ _ _ a b => drawsOk a && drawsOk b
  | _ => true
def drawsT (c : ACode) : Bool × List (List (List Oper)) := (drawsOk c, givenF c)
def drawsU (c : ACode) : Bool × List (List (List Oper)) := (true, madeF c)
theorem draws_iff {c : ACode} : drawsT c = drawsU c ↔ drawsOk c = true ∧ givenF c = madeF c := by simp [drawsT, drawsU]

/-! ### Variables in a tree -/
inductive Tr where
  | nil
  | node (v : AV) (l r : Tr)
def Tr.get : Tr → List Bool → AV
  | .nil, _ => .junk
  | .node v _ _, [] => v
  | .node _ l r, b :: p => match b with
    | true => r.get p
    | false => l.get p
def Tr.put : Tr → List Bool → AV → Tr
  | .nil, [], v => .node v .nil .nil
  | .nil, b :: p, v => match b with
    | true => .node .junk .nil (Tr.put .nil p v)
    | false => .node .junk (Tr.put .nil p v) .nil
  | .node _ l r, [], v => .node v l r
  | .node u l r, b :: p, v => match b with
    | true => .node u l (r.put p v)
    | false => .node u (l.put p v) r
theorem Tr.get_put : ∀ (t : Tr) (p q : List Bool) (v : AV), (t.put p v).get q = if q = p then v else t.get q
  | .nil, [], q, v => by cases q <;> simp [Tr.put, Tr.get]; rename_i b q; cases b <;> rfl
  | .nil, b :: p, q, v => by
    have ih := Tr.get_put .nil p
    cases b <;> cases q <;> simp [Tr.put, Tr.get]
    all_goals
      rename_i c q
      cases c <;> simp [Tr.get, ih]
  | .node u l r, [], q, v => by cases q <;> simp [Tr.put, Tr.get]
  | .node u l r, b :: p, q, v => by
    have ihl := Tr.get_put l p
    have ihr := Tr.get_put r p
    cases b <;> cases q <;> simp [Tr.put, Tr.get]
    all_goals
      rename_i c q
      cases c <;> simp [ihl, ihr]
def pathF : Nat → Nat → List Bool
  | 0, _ => []
  | _ + 1, 0 => []
  | k + 1, t + 1 => if t % 2 = 0 then true :: pathF k (t / 2) else false :: pathF k (t / 2)
/-- Where a variable lies. -/
def path (t : Nat) : List Bool := pathF (t + 1) t
theorem pathF_inj : ∀ (k k' s t : Nat), s < k → t < k' → pathF k s = pathF k' t → s = t
  | 0, _, _, _, h, _, _ => by omega
  | _ + 1, 0, _, _, _, h, _ => by omega
  | k + 1, k' + 1, 0, 0, _, _, _ => rfl
  | k + 1, k' + 1, 0, t + 1, _, _, h => by unfold pathF at h; split at h <;> cases h
  | k + 1, k' + 1, s + 1, 0, _, _, h => by unfold pathF at h; split at h <;> cases h
  | k + 1, k' + 1, s + 1, t + 1, h1, h2, h => by
    unfold pathF at h
    split at h <;> split at h <;> first | (cases h; done) | skip
    all_goals
      have := pathF_inj k k' (s / 2) (t / 2) (by omega) (by omega) (List.cons.inj h).2
      omega
theorem path_inj {s t : Nat} (h : path s = path t) : s = t := pathF_inj _ _ s t (by omega) (by omega) h
def tf (tr : Tr) : Nat → AV := fun t => tr.get (path t)
theorem tf_upd (tr : Tr) (t : Nat) (v : AV) : upd (tf tr) t v = tf (tr.put (path t) v) := by
  funext s
  simp only [upd_apply, tf, Tr.get_put]
  by_cases h : s = t
  · subst h; simp
  · rw [if_neg h, if_neg fun e => h (path_inj e)]
def tpick (l : List Nat) (f : Nat → AV) : Tr := match l with
  | [] => .nil
  | t :: l => (tpick l f).put (path t) (f t)
theorem tf_tpick (l : List Nat) (f : Nat → AV) (t : Nat) : tf (tpick l f) t = f t ∨ tf (tpick l f) t = .junk := by
  induction l with
  | nil => exact .inr rfl
  | cons s l ih =>
    simp only [tf, tpick, Tr.get_put]
    split
    · rename_i h; rw [path_inj h]; exact .inl rfl
    · exact ih
theorem AW.keepT {E : Env} {n N : Nat} {f : Nat → AV} {σ : Store} {Q : AExit → (Nat → AV) → Store → Prop} {c : Code} (l : List Nat) (h : AW E n N c (tf (tpick l f)) σ Q) : AW E n N c f σ Q := by
  intro rd ds0 Γ w a hrd hn hr ht hd
  refine h rd ds0 Γ w a hrd hn hr ⟨ht.size, fun t hlt => ?_, fun t hge => ?_⟩ hd
  · rcases tf_tpick l f t with e | e
    · rw [e]; exact ht.rel t hlt
    · rw [e]; exact .junk _
  · rcases tf_tpick l f t with e | e
    · rw [e]; exact ht.far t hge
    · exact e
@[simp] theorem Tr.get_nil (p : List Bool) : Tr.nil.get p = .junk := by cases p <;> rfl
@[simp] theorem Tr.get_here (v : AV) (l r : Tr) : (Tr.node v l r).get [] = v := rfl
@[simp] theorem Tr.get_r (v : AV) (l r : Tr) (p : List Bool) : (Tr.node v l r).get (true :: p) = r.get p := rfl
@[simp] theorem Tr.get_l (v : AV) (l r : Tr) (p : List Bool) : (Tr.node v l r).get (false :: p) = l.get p := rfl
@[simp] theorem Tr.put_nil (v : AV) : Tr.nil.put [] v = .node v .nil .nil := rfl
@[simp] theorem Tr.put_nil_r (p : List Bool) (v : AV) : Tr.nil.put (true :: p) v = .node .junk .nil (Tr.nil.put p v) := rfl
@[simp] theorem Tr.put_nil_l (p : List Bool) (v : AV) : Tr.nil.put (false :: p) v = .node .junk (Tr.nil.put p v) .nil := rfl
@[simp] theorem Tr.put_here (u : AV) (l r : Tr) (v : AV) : (Tr.node u l r).put [] v = .node v l r := rfl
@[simp] theorem Tr.put_r (u : AV) (l r : Tr) (p : List Bool) (v : AV) : (Tr.node u l r).put (true :: p) v = .node u l (r.put p v) := rfl
@[simp] theorem Tr.put_l (u : AV) (l r : Tr) (p : List Bool) (v : AV) : (Tr.node u l r).put (false :: p) v = .node u (l.put p v) r := rfl
@[simp] theorem tf_get (tr : Tr) (t : Nat) : tf tr t = tr.get (path t) := rfl
@[simp] theorem tf_upd' (tr : Tr) (t : Nat) (v : AV) : upd (tf tr) t v = tf (tr.put (path t) v) := tf_upd tr t v
@[simp] theorem tpick_nil (f : Nat → AV) : tpick [] f = .nil := rfl
@[simp] theorem tpick_cons (t : Nat) (l : List Nat) (f : Nat → AV) : tpick (t :: l) f = (tpick l f).put (path t) (f t) := rfl
def targs : List AV → Nat → Tr
  | [], _ => .nil
  | a :: l, k => (targs l (k + 1)).put (path k) a
@[simp] theorem targs_nil (k : Nat) : targs [] k = .nil := rfl
@[simp] theorem targs_cons (a : AV) (l : List AV) (k : Nat) : targs (a :: l) k = (targs l (k + 1)).put (path k) a := rfl
theorem tf_targs : ∀ (l : List AV) (k t : Nat), tf (targs l k) t = if t < k then .junk else l.getD (t - k) .junk
  | [], k, t => by simp [targs, tf]
  | a :: l, k, t => by
    have ih := tf_targs l (k + 1) t
    simp only [tf, targs, Tr.get_put] at ih ⊢
    by_cases h : t = k
    · subst h; simp
    · rw [if_neg fun e => h (path_inj e), ih]
      by_cases h2 : t < k
      · rw [if_pos h2, if_pos (by omega)]
      · rw [if_neg h2, if_neg (by omega)]
        obtain ⟨j, rfl⟩ : ∃ j, t = k + 1 + j := ⟨t - (k + 1), by omega⟩
        rw [show k + 1 + j - (k + 1) = j by omega, show k + 1 + j - k = j + 1 by omega]
        rfl
theorem argF_tf (l : List AV) : argF l = tf (targs l 0) := by
  funext t
  rw [tf_targs]
  simp [argF]
@[simp] theorem path_0 : path 0 = [] := by kernel_rfl
@[simp] theorem path_1 : path 1 = [true] := by kernel_rfl
@[simp] theorem path_2 : path 2 = [false] := by kernel_rfl
@[simp] theorem path_3 : path 3 = [true, true] := by kernel_rfl
@[simp] theorem path_4 : path 4 = [false, true] := by kernel_rfl
@[simp] theorem path_5 : path 5 = [true, false] := by kernel_rfl
@[simp] theorem path_6 : path 6 = [false, false] := by kernel_rfl
@[simp] theorem path_7 : path 7 = [true, true, true] := by kernel_rfl
@[simp] theorem path_8 : path 8 = [false, true, true] := by kernel_rfl
@[simp] theorem path_9 : path 9 = [true, false, true] := by kernel_rfl
@[simp] theorem path_10 : path 10 = [false, false, true] := by kernel_rfl
@[simp] theorem path_11 : path 11 = [true, true, false] := by kernel_rfl
@[simp] theorem path_12 : path 12 = [false, true, false] := by kernel_rfl
@[simp] theorem path_13 : path 13 = [true, false, false] := by kernel_rfl
@[simp] theorem path_14 : path 14 = [false, false, false] := by kernel_rfl
@[simp] theorem path_15 : path 15 = [true, true, true, true] := by kernel_rfl
@[simp] theorem path_16 : path 16 = [false, true, true, true] := by kernel_rfl
@[simp] theorem path_17 : path 17 = [true, false, true, true] := by kernel_rfl
@[simp] theorem path_18 : path 18 = [false, false, true, true] := by kernel_rfl
@[simp] theorem path_19 : path 19 = [true, true, false, true] := by kernel_rfl
@[simp] theorem path_20 : path 20 = [false, true, false, true] := by kernel_rfl
@[simp] theorem path_21 : path 21 = [true, false, false, true] := by kernel_rfl
@[simp] theorem path_22 : path 22 = [false, false, false, true] := by kernel_rfl
@[simp] theorem path_23 : path 23 = [true, true, true, false] := by kernel_rfl
@[simp] theorem path_24 : path 24 = [false, true, true, false] := by kernel_rfl
@[simp] theorem path_25 : path 25 = [true, false, true, false] := by kernel_rfl
@[simp] theorem path_26 : path 26 = [false, false, true, false] := by kernel_rfl
@[simp] theorem path_27 : path 27 = [true, true, false, false] := by kernel_rfl
@[simp] theorem path_28 : path 28 = [false, true, false, false] := by kernel_rfl
@[simp] theorem path_29 : path 29 = [true, false, false, false] := by kernel_rfl
@[simp] theorem path_30 : path 30 = [false, false, false, false] := by kernel_rfl
@[simp] theorem path_31 : path 31 = [true, true, true, true, true] := by kernel_rfl
@[simp] theorem path_32 : path 32 = [false, true, true, true, true] := by kernel_rfl
@[simp] theorem path_33 : path 33 = [true, false, true, true, true] := by kernel_rfl
@[simp] theorem path_34 : path 34 = [false, false, true, true, true] := by kernel_rfl
@[simp] theorem path_35 : path 35 = [true, true, false, true, true] := by kernel_rfl
@[simp] theorem path_36 : path 36 = [false, true, false, true, true] := by kernel_rfl
@[simp] theorem path_37 : path 37 = [true, false, false, true, true] := by kernel_rfl
@[simp] theorem path_38 : path 38 = [false, false, false, true, true] := by kernel_rfl
@[simp] theorem path_39 : path 39 = [true, true, true, false, true] := by kernel_rfl
@[simp] theorem path_40 : path 40 = [false, true, true, false, true] := by kernel_rfl
@[simp] theorem path_41 : path 41 = [true, false, true, false, true] := by kernel_rfl
@[simp] theorem path_42 : path 42 = [false, false, true, false, true] := by kernel_rfl
@[simp] theorem path_43 : path 43 = [true, true, false, false, true] := by kernel_rfl
@[simp] theorem path_44 : path 44 = [false, true, false, false, true] := by kernel_rfl
@[simp] theorem path_45 : path 45 = [true, false, false, false, true] := by kernel_rfl
@[simp] theorem path_46 : path 46 = [false, false, false, false, true] := by kernel_rfl
@[simp] theorem path_47 : path 47 = [true, true, true, true, false] := by kernel_rfl
@[simp] theorem path_48 : path 48 = [false, true, true, true, false] := by kernel_rfl
@[simp] theorem path_49 : path 49 = [true, false, true, true, false] := by kernel_rfl
@[simp] theorem path_50 : path 50 = [false, false, true, true, false] := by kernel_rfl
@[simp] theorem path_51 : path 51 = [true, true, false, true, false] := by kernel_rfl
@[simp] theorem path_52 : path 52 = [false, true, false, true, false] := by kernel_rfl
@[simp] theorem path_53 : path 53 = [true, false, false, true, false] := by kernel_rfl
@[simp] theorem path_54 : path 54 = [false, false, false, true, false] := by kernel_rfl
@[simp] theorem path_55 : path 55 = [true, true, true, false, false] := by kernel_rfl
@[simp] theorem path_56 : path 56 = [false, true, true, false, false] := by kernel_rfl
@[simp] theorem path_57 : path 57 = [true, false, true, false, false] := by kernel_rfl
@[simp] theorem path_58 : path 58 = [false, false, true, false, false] := by kernel_rfl
@[simp] theorem path_59 : path 59 = [true, true, false, false, false] := by kernel_rfl
@[simp] theorem path_60 : path 60 = [false, true, false, false, false] := by kernel_rfl
@[simp] theorem path_61 : path 61 = [true, false, false, false, false] := by kernel_rfl
@[simp] theorem path_62 : path 62 = [false, false, false, false, false] := by kernel_rfl
@[simp] theorem path_63 : path 63 = [true, true, true, true, true, true] := by kernel_rfl
@[simp] theorem path_64 : path 64 = [false, true, true, true, true, true] := by kernel_rfl
@[simp] theorem path_65 : path 65 = [true, false, true, true, true, true] := by kernel_rfl
@[simp] theorem path_66 : path 66 = [false, false, true, true, true, true] := by kernel_rfl
@[simp] theorem path_67 : path 67 = [true, true, false, true, true, true] := by kernel_rfl
@[simp] theorem path_68 : path 68 = [false, true, false, true, true, true] := by kernel_rfl
@[simp] theorem path_69 : path 69 = [true, false, false, true, true, true] := by kernel_rfl
@[simp] theorem path_70 : path 70 = [false, false, false, true, true, true] := by kernel_rfl
@[simp] theorem path_71 : path 71 = [true, true, true, false, true, true] := by kernel_rfl
@[simp] theorem path_72 : path 72 = [false, true, true, false, true, true] := by kernel_rfl
@[simp] theorem path_73 : path 73 = [true, false, true, false, true, true] := by kernel_rfl
@[simp] theorem path_74 : path 74 = [false, false, true, false, true, true] := by kernel_rfl
@[simp] theorem path_75 : path 75 = [true, true, false, false, true, true] := by kernel_rfl
@[simp] theorem path_76 : path 76 = [false, true, false, false, true, true] := by kernel_rfl
@[simp] theorem path_77 : path 77 = [true, false, false, false, true, true] := by kernel_rfl
@[simp] theorem path_78 : path 78 = [false, false, false, false, true, true] := by kernel_rfl
@[simp] theorem path_79 : path 79 = [true, true, true, true, false, true] := by kernel_rfl
@[simp] theorem path_80 : path 80 = [false, true, true, true, false, true] := by kernel_rfl
@[simp] theorem path_81 : path 81 = [true, false, true, true, false, true] := by kernel_rfl
@[simp] theorem path_82 : path 82 = [false, false, true, true, false, true] := by kernel_rfl
@[simp] theorem path_83 : path 83 = [true, true, false, true, false, true] := by kernel_rfl
@[simp] theorem path_84 : path 84 = [false, true, false, true, false, true] := by kernel_rfl
@[simp] theorem path_85 : path 85 = [true, false, false, true, false, true] := by kernel_rfl
@[simp] theorem path_86 : path 86 = [false, false, false, true, false, true] := by kernel_rfl
@[simp] theorem path_87 : path 87 = [true, true, true, false, false, true] := by kernel_rfl
@[simp] theorem path_88 : path 88 = [false, true, true, false, false, true] := by kernel_rfl
@[simp] theorem path_89 : path 89 = [true, false, true, false, false, true] := by kernel_rfl
@[simp] theorem path_90 : path 90 = [false, false, true, false, false, true] := by kernel_rfl
@[simp] theorem path_91 : path 91 = [true, true, false, false, false, true] := by kernel_rfl
@[simp] theorem path_92 : path 92 = [false, true, false, false, false, true] := by kernel_rfl
@[simp] theorem path_93 : path 93 = [true, false, false, false, false, true] := by kernel_rfl
@[simp] theorem path_94 : path 94 = [false, false, false, false, false, true] := by kernel_rfl
@[simp] theorem path_95 : path 95 = [true, true, true, true, true, false] := by kernel_rfl
@[simp] theorem path_96 : path 96 = [false, true, true, true, true, false] := by kernel_rfl
@[simp] theorem path_97 : path 97 = [true, false, true, true, true, false] := by kernel_rfl
@[simp] theorem path_98 : path 98 = [false, false, true, true, true, false] := by kernel_rfl
@[simp] theorem path_99 : path 99 = [true, true, false, true, true, false] := by kernel_rfl
@[simp] theorem path_100 : path 100 = [false, true, false, true, true, false] := by kernel_rfl
@[simp] theorem path_101 : path 101 = [true, false, false, true, true, false] := by kernel_rfl
@[simp] theorem path_102 : path 102 = [false, false, false, true, true, false] := by kernel_rfl
@[simp] theorem path_103 : path 103 = [true, true, true, false, true, false] := by kernel_rfl
@[simp] theorem path_104 : path 104 = [false, true, true, false, true, false] := by kernel_rfl
@[simp] theorem path_105 : path 105 = [true, false, true, false, true, false] := by kernel_rfl
@[simp] theorem path_106 : path 106 = [false, false, true, false, true, false] := by kernel_rfl
@[simp] theorem path_107 : path 107 = [true, true, false, false, true, false] := by kernel_rfl
@[simp] theorem path_108 : path 108 = [false, true, false, false, true, false] := by kernel_rfl
@[simp] theorem path_109 : path 109 = [true, false, false, false, true, false] := by kernel_rfl
@[simp] theorem path_110 : path 110 = [false, false, false, false, true, false] := by kernel_rfl
@[simp] theorem path_111 : path 111 = [true, true, true, true, false, false] := by kernel_rfl
@[simp] theorem path_112 : path 112 = [false, true, true, true, false, false] := by kernel_rfl
@[simp] theorem path_113 : path 113 = [true, false, true, true, false, false] := by kernel_rfl
@[simp] theorem path_114 : path 114 = [false, false, true, true, false, false] := by kernel_rfl
@[simp] theorem path_115 : path 115 = [true, true, false, true, false, false] := by kernel_rfl
@[simp] theorem path_116 : path 116 = [false, true, false, true, false, false] := by kernel_rfl
@[simp] theorem path_117 : path 117 = [true, false, false, true, false, false] := by kernel_rfl
@[simp] theorem path_118 : path 118 = [false, false, false, true, false, false] := by kernel_rfl
@[simp] theorem path_119 : path 119 = [true, true, true, false, false, false] := by kernel_rfl
@[simp] theorem path_120 : path 120 = [false, true, true, false, false, false] := by kernel_rfl
@[simp] theorem path_121 : path 121 = [true, false, true, false, false, false] := by kernel_rfl
@[simp] theorem path_122 : path 122 = [false, false, true, false, false, false] := by kernel_rfl
@[simp] theorem path_123 : path 123 = [true, true, false, false, false, false] := by kernel_rfl
@[simp] theorem path_124 : path 124 = [false, true, false, false, false, false] := by kernel_rfl
@[simp] theorem path_125 : path 125 = [true, false, false, false, false, false] := by kernel_rfl
@[simp] theorem path_126 : path 126 = [false, false, false, false, false, false] := by kernel_rfl
@[simp] theorem path_127 : path 127 = [true, true, true, true, true, true, true] := by kernel_rfl
@[simp] theorem path_128 : path 128 = [false, true, true, true, true, true, true] := by kernel_rfl
@[simp] theorem path_129 : path 129 = [true, false, true, true, true, true, true] := by kernel_rfl
@[simp] theorem path_130 : path 130 = [false, false, true, true, true, true, true] := by kernel_rfl
@[simp] theorem path_131 : path 131 = [true, true, false, true, true, true, true] := by kernel_rfl
@[simp] theorem path_132 : path 132 = [false, true, false, true, true, true, true] := by kernel_rfl
@[simp] theorem path_133 : path 133 = [true, false, false, true, true, true, true] := by kernel_rfl
@[simp] theorem path_134 : path 134 = [false, false, false, true, true, true, true] := by kernel_rfl
@[simp] theorem path_135 : path 135 = [true, true, true, false, true, true, true] := by kernel_rfl
@[simp] theorem path_136 : path 136 = [false, true, true, false, true, true, true] := by kernel_rfl
@[simp] theorem path_137 : path 137 = [true, false, true, false, true, true, true] := by kernel_rfl
@[simp] theorem path_138 : path 138 = [false, false, true, false, true, true, true] := by kernel_rfl
@[simp] theorem path_139 : path 139 = [true, true, false, false, true, true, true] := by kernel_rfl
@[simp] theorem path_140 : path 140 = [false, true, false, false, true, true, true] := by kernel_rfl
@[simp] theorem path_141 : path 141 = [true, false, false, false, true, true, true] := by kernel_rfl
@[simp] theorem path_142 : path 142 = [false, false, false, false, true, true, true] := by kernel_rfl
@[simp] theorem path_143 : path 143 = [true, true, true, true, false, true, true] := by kernel_rfl
@[simp] theorem path_144 : path 144 = [false, true, true, true, false, true, true] := by kernel_rfl
@[simp] theorem path_145 : path 145 = [true, false, true, true, false, true, true] := by kernel_rfl
@[simp] theorem path_146 : path 146 = [false, false, true, true, false, true, true] := by kernel_rfl
@[simp] theorem path_147 : path 147 = [true, true, false, true, false, true, true] := by kernel_rfl
@[simp] theorem path_148 : path 148 = [false, true, false, true, false, true, true] := by kernel_rfl
@[simp] theorem path_149 : path 149 = [true, false, false, true, false, true, true] := by kernel_rfl
@[simp] theorem path_150 : path 150 = [false, false, false, true, false, true, true] := by kernel_rfl
@[simp] theorem path_151 : path 151 = [true, true, true, false, false, true, true] := by kernel_rfl
@[simp] theorem path_152 : path 152 = [false, true, true, false, false, true, true] := by kernel_rfl
@[simp] theorem path_153 : path 153 = [true, false, true, false, false, true, true] := by kernel_rfl
@[simp] theorem path_154 : path 154 = [false, false, true, false, false, true, true] := by kernel_rfl
@[simp] theorem path_155 : path 155 = [true, true, false, false, false, true, true] := by kernel_rfl
@[simp] theorem path_156 : path 156 = [false, true, false, false, false, true, true] := by kernel_rfl
@[simp] theorem path_157 : path 157 = [true, false, false, false, false, true, true] := by kernel_rfl
@[simp] theorem path_158 : path 158 = [false, false, false, false, false, true, true] := by kernel_rfl
@[simp] theorem path_159 : path 159 = [true, true, true, true, true, false, true] := by kernel_rfl
@[simp] theorem path_160 : path 160 = [false, true, true, true, true, false, true] := by kernel_rfl
@[simp] theorem path_161 : path 161 = [true, false, true, true, true, false, true] := by kernel_rfl
@[simp] theorem path_162 : path 162 = [false, false, true, true, true, false, true] := by kernel_rfl
@[simp] theorem path_163 : path 163 = [true, true, false, true, true, false, true] := by kernel_rfl
@[simp] theorem path_164 : path 164 = [false, true, false, true, true, false, true] := by kernel_rfl
@[simp] theorem path_165 : path 165 = [true, false, false, true, true, false, true] := by kernel_rfl
@[simp] theorem path_166 : path 166 = [false, false, false, true, true, false, true] := by kernel_rfl
@[simp] theorem path_167 : path 167 = [true, true, true, false, true, false, true] := by kernel_rfl
@[simp] theorem path_168 : path 168 = [false, true, true, false, true, false, true] := by kernel_rfl
@[simp] theorem path_169 : path 169 = [true, false, true, false, true, false, true] := by kernel_rfl
@[simp] theorem path_170 : path 170 = [false, false, true, false, true, false, true] := by kernel_rfl
@[simp] theorem path_171 : path 171 = [true, true, false, false, true, false, true] := by kernel_rfl
@[simp] theorem path_172 : path 172 = [false, true, false, false, true, false, true] := by kernel_rfl
@[simp] theorem path_173 : path 173 = [true, false, false, false, true, false, true] := by kernel_rfl
@[simp] theorem path_174 : path 174 = [false, false, false, false, true, false, true] := by kernel_rfl
@[simp] theorem path_175 : path 175 = [true, true, true, true, false, false, true] := by kernel_rfl
@[simp] theorem path_176 : path 176 = [false, true, true, true, false, false, true] := by kernel_rfl
@[simp] theorem path_177 : path 177 = [true, false, true, true, false, false, true] := by kernel_rfl
@[simp] theorem path_178 : path 178 = [false, false, true, true, false, false, true] := by kernel_rfl
@[simp] theorem path_179 : path 179 = [true, true, false, true, false, false, true] := by kernel_rfl
@[simp] theorem path_180 : path 180 = [false, true, false, true, false, false, true] := by kernel_rfl
@[simp] theorem path_181 : path 181 = [true, false, false, true, false, false, true] := by kernel_rfl
@[simp] theorem path_182 : path 182 = [false, false, false, true, false, false, true] := by kernel_rfl
@[simp] theorem path_183 : path 183 = [true, true, true, false, false, false, true] := by kernel_rfl
@[simp] theorem path_184 : path 184 = [false, true, true, false, false, false, true] := by kernel_rfl
@[simp] theorem path_185 : path 185 = [true, false, true, false, false, false, true] := by kernel_rfl
@[simp] theorem path_186 : path 186 = [false, false, true, false, false, false, true] := by kernel_rfl
@[simp] theorem path_187 : path 187 = [true, true, false, false, false, false, true] := by kernel_rfl
@[simp] theorem path_188 : path 188 = [false, true, false, false, false, false, true] := by kernel_rfl
@[simp] theorem path_189 : path 189 = [true, false, false, false, false, false, true] := by kernel_rfl
@[simp] theorem path_190 : path 190 = [false, false, false, false, false, false, true] := by kernel_rfl
@[simp] theorem path_191 : path 191 = [true, true, true, true, true, true, false] := by kernel_rfl
@[simp] theorem path_192 : path 192 = [false, true, true, true, true, true, false] := by kernel_rfl
@[simp] theorem path_193 : path 193 = [true, false, true, true, true, true, false] := by kernel_rfl
@[simp] theorem path_194 : path 194 = [false, false, true, true, true, true, false] := by kernel_rfl
@[simp] theorem path_195 : path 195 = [true, true, false, true, true, true, false] := by kernel_rfl
@[simp] theorem path_196 : path 196 = [false, true, false, true, true, true, false] := by kernel_rfl
@[simp] theorem path_197 : path 197 = [true, false, false, true, true, true, false] := by kernel_rfl
@[simp] theorem path_198 : path 198 = [false, false, false, true, true, true, false] := by kernel_rfl
@[simp] theorem path_199 : path 199 = [true, true, true, false, true, true, false] := by kernel_rfl
@[simp] theorem path_200 : path 200 = [false, true, true, false, true, true, false] := by kernel_rfl
@[simp] theorem path_201 : path 201 = [true, false, true, false, true, true, false] := by kernel_rfl
@[simp] theorem path_202 : path 202 = [false, false, true, false, true, true, false] := by kernel_rfl
@[simp] theorem path_203 : path 203 = [true, true, false, false, true, true, false] := by kernel_rfl
@[simp] theorem path_204 : path 204 = [false, true, false, false, true, true, false] := by kernel_rfl
@[simp] theorem path_205 : path 205 = [true, false, false, false, true, true, false] := by kernel_rfl
@[simp] theorem path_206 : path 206 = [false, false, false, false, true, true, false] := by kernel_rfl
@[simp] theorem path_207 : path 207 = [true, true, true, true, false, true, false] := by kernel_rfl
@[simp] theorem path_208 : path 208 = [false, true, true, true, false, true, false] := by kernel_rfl
@[simp] theorem path_209 : path 209 = [true, false, true, true, false, true, false] := by kernel_rfl
@[simp] theorem path_210 : path 210 = [false, false, true, true, false, true, false] := by kernel_rfl
@[simp] theorem path_211 : path 211 = [true, true, false, true, false, true, false] := by kernel_rfl
@[simp] theorem path_212 : path 212 = [false, true, false, true, false, true, false] := by kernel_rfl
@[simp] theorem path_213 : path 213 = [true, false, false, true, false, true, false] := by kernel_rfl
@[simp] theorem path_214 : path 214 = [false, false, false, true, false, true, false] := by kernel_rfl
@[simp] theorem path_215 : path 215 = [true, true, true, false, false, true, false] := by kernel_rfl
@[simp] theorem path_216 : path 216 = [false, true, true, false, false, true, false] := by kernel_rfl
@[simp] theorem path_217 : path 217 = [true, false, true, false, false, true, false] := by kernel_rfl
@[simp] theorem path_218 : path 218 = [false, false, true, false, false, true, false] := by kernel_rfl
@[simp] theorem path_219 : path 219 = [true, true, false, false, false, true, false] := by kernel_rfl
@[simp] theorem path_220 : path 220 = [false, true, false, false, false, true, false] := by kernel_rfl
@[simp] theorem path_221 : path 221 = [true, false, false, false, false, true, false] := by kernel_rfl
@[simp] theorem path_222 : path 222 = [false, false, false, false, false, true, false] := by kernel_rfl
@[simp] theorem path_223 : path 223 = [true, true, true, true, true, false, false] := by kernel_rfl
@[simp] theorem path_224 : path 224 = [false, true, true, true, true, false, false] := by kernel_rfl
@[simp] theorem path_225 : path 225 = [true, false, true, true, true, false, false] := by kernel_rfl
@[simp] theorem path_226 : path 226 = [false, false, true, true, true, false, false] := by kernel_rfl
@[simp] theorem path_227 : path 227 = [true, true, false, true, true, false, false] := by kernel_rfl
@[simp] theorem path_228 : path 228 = [false, true, false, true, true, false, false] := by kernel_rfl
@[simp] theorem path_229 : path 229 = [true, false, false, true, true, false, false] := by kernel_rfl
@[simp] theorem path_230 : path 230 = [false, false, false, true, true, false, false] := by kernel_rfl
@[simp] theorem path_231 : path 231 = [true, true, true, false, true, false, false] := by kernel_rfl
@[simp] theorem path_232 : path 232 = [false, true, true, false, true, false, false] := by kernel_rfl
@[simp] theorem path_233 : path 233 = [true, false, true, false, true, false, false] := by kernel_rfl
@[simp] theorem path_234 : path 234 = [false, false, true, false, true, false, false] := by kernel_rfl
@[simp] theorem path_235 : path 235 = [true, true, false, false, true, false, false] := by kernel_rfl
@[simp] theorem path_236 : path 236 = [false, true, false, false, true, false, false] := by kernel_rfl
@[simp] theorem path_237 : path 237 = [true, false, false, false, true, false, false] := by kernel_rfl
@[simp] theorem path_238 : path 238 = [false, false, false, false, true, false, false] := by kernel_rfl
@[simp] theorem path_239 : path 239 = [true, true, true, true, false, false, false] := by kernel_rfl
@[simp] theorem path_240 : path 240 = [false, true, true, true, false, false, false] := by kernel_rfl
@[simp] theorem path_241 : path 241 = [true, false, true, true, false, false, false] := by kernel_rfl
@[simp] theorem path_242 : path 242 = [false, false, true, true, false, false, false] := by kernel_rfl
@[simp] theorem path_243 : path 243 = [true, true, false, true, false, false, false] := by kernel_rfl
@[simp] theorem path_244 : path 244 = [false, true, false, true, false, false, false] := by kernel_rfl
@[simp] theorem path_245 : path 245 = [true, false, false, true, false, false, false] := by kernel_rfl
@[simp] theorem path_246 : path 246 = [false, false, false, true, false, false, false] := by kernel_rfl
@[simp] theorem path_247 : path 247 = [true, true, true, false, false, false, false] := by kernel_rfl
@[simp] theorem path_248 : path 248 = [false, true, true, false, false, false, false] := by kernel_rfl
@[simp] theorem path_249 : path 249 = [true, false, true, false, false, false, false] := by kernel_rfl
@[simp] theorem path_250 : path 250 = [false, false, true, false, false, false, false] := by kernel_rfl
@[simp] theorem path_251 : path 251 = [true, true, false, false, false, false, false] := by kernel_rfl
@[simp] theorem path_252 : path 252 = [false, true, false, false, false, false, false] := by kernel_rfl
@[simp] theorem path_253 : path 253 = [true, false, false, false, false, false, false] := by kernel_rfl
@[simp] theorem path_254 : path 254 = [false, false, false, false, false, false, false] := by kernel_rfl
@[simp] theorem path_255 : path 255 = [true, true, true, true, true, true, true, true] := by kernel_rfl

/-! ### The condition of a walk -/
abbrev Kn := AExit → (Nat → AV) → Store → Prop
def altsW (E : Env) (N : Nat) (ow : List Nat) (f : Nat → AV) (σ : Store) (K : (Nat → AV) → Store → Prop) : List (List Oper × List An) → Prop
  | [] => True
  | a :: r => aopsE E ow N a.1.toArray K a.2 a.1 0 0 [] [] f σ ∧ altsW E N ow f σ K r
theorem altsW_mem {E : Env} {N : Nat} {ow : List Nat} {f : Nat → AV} {σ : Store} {K : (Nat → AV) → Store → Prop} : ∀ {l : List (List Oper × List An)}, altsW E N ow f σ K l → ∀ a ∈ l, aopsE E ow N a.1.toArray K a.2 a.1 0 0 [] [] f σ
  | [], _, a, ha => by simp at ha
  | b :: l, h, a, ha => by
    rcases List.mem_cons.1 ha with rfl | ha
    · exact h.1
    · exact altsW_mem h.2 a ha
def wpA (E : Env) (n N : Nat) (ow : List Nat) : ACode → (Nat → AV) → Store → Kn → Prop
  | .skip, f, σ, Q => Q .normal f σ
  | .reg _ ops, f, σ, Q => aops E ow N ops.toArray ops f σ (Q .normal)
  | .drw _ ops an, f, σ, Q => aopsE E ow N ops.toArray (Q .normal) an ops 0 0 [] [] f σ
  | .drf _ _ _ _ alts, f, σ, Q => altsW E N ow f σ (Q .normal) alts
  | .seq lv a b, f, σ, Q => wpA E n N ow a f σ fun e f σ => match e with
    | .normal => wpA E n N ow b (tf (tpick lv f)) σ Q
    | e => Q e f σ
  | .cond c a b, f, σ, Q => match aeval E.G f c with
    | .c (.bool t) => (t = true → wpA E n N ow a f σ Q) ∧ (t = false → wpA E n N ow b f σ Q)
    | _ => False
  | .block id c, f, σ, Q => wpA E n N ow c f σ (ABlock id Q)
  | .loop lv c, f, σ, Q => AW E n N (.loop c.er) f σ Q
  | .exit id, f, σ, Q => Q (.exit id) f σ
  | .scope c, f, σ, Q => wpA E n N ow c f σ (ANoGoto Q)
  | .label _, f, σ, Q => Q .normal f σ
  | .ret, f, σ, Q => Q .ret f σ
  | .rfn g ps _ a b, f, σ, Q => AW E n N (.rangeFunc g ps a.er b.er) f σ Q
  | .other c, f, σ, Q => AW E n N c f σ Q

section
variable {E : Env} {n N : Nat} {ow : List Nat}

theorem wpA_ok (hm : E.P.follows .mixedOrders = true) : ∀ (c : ACode) (f : Nat → AV) (σ : Store) (Q : Kn), drawsT c = drawsU c → wpA E n N ow c f σ Q → AW E n N c.er f σ Q := by
  intro c f σ Q hd
  obtain ⟨h1, h2⟩ := draws_iff.1 hd
  clear hd
  revert f σ Q
  suffices h : ∀ (f : Nat → AV) (σ : Store) (Q : Kn), (drawsOk c = true ∧ givenF c = madeF c) → wpA E n N ow c f σ Q → AW E n N c.er f σ Q from fun f σ Q => h f σ Q ⟨h1, h2⟩
  clear h1 h2
  induction c with
  | skip => intro f σ Q _ h; exact AW.skip h
  | reg id ops => intro f σ Q _ h; exact AW.region h
  | drw id ops an => intro f σ Q hd h; exact AW.drawE ow an hm hd.1 h
  | drf id ops f0 cs alts =>
    intro f σ Q hd h
    obtain ⟨h1, h2⟩ := hd
    simp only [drawsOk, Bool.and_eq_true, List.all_eq_true] at h1
    simp only [givenF, madeF, List.cons.injEq, and_true] at h2
    have hget : ∀ j, j ≤ cs.length → ∃ an, alts[j]? = some (altOf ops f0 cs j, an) := by
      intro j hj
      have e : (alts.map (·.1))[j]? = some (altOf ops f0 cs j) := by rw [h2, List.getElem?_map, List.getElem?_range (by omega)]; rfl
      rw [List.getElem?_map, Option.map_eq_some_iff] at e
      obtain ⟨⟨a1, a2⟩, e1, e2⟩ := e
      exact ⟨a2, by rw [e1]; simp at e2; rw [e2]⟩
    have hD : ∀ j, j ≤ cs.length → (altOf ops f0 cs j, (alts[j]?.map (·.2)).getD []) ∈ alts := by
      intro j hj
      obtain ⟨an, han⟩ := hget j hj
      rw [han]
      exact List.mem_of_getElem? han
    exact AW.drawF ow (fun j => (alts[j]?.map (·.2)).getD []) hm h1.1 (fun j hj => h1.2 _ (hD j hj)) fun j hj => altsW_mem h _ (hD j hj)
  | seq lv a b ha hb =>
    intro f σ Q hd h
    obtain ⟨h1, h2⟩ := hd
    simp only [drawsOk, Bool.and_eq_true] at h1
    obtain ⟨h3, h4⟩ := List.append_inj h2 (givenF_len a)
    refine AW.seq (AW.mono (ha f σ _ ⟨h1.1, h3⟩ h) ?_)
    intro e f σ h
    cases e <;> first | exact h | skip
    exact AW.keepT lv (hb _ _ _ ⟨h1.2, h4⟩ h)
  | cond c a b ha hb =>
    intro f σ Q hd h
    obtain ⟨h1, h2⟩ := hd
    simp only [drawsOk, Bool.and_eq_true] at h1
    obtain ⟨h3, h4⟩ := List.append_inj h2 (givenF_len a)
    simp only [wpA] at h
    split at h
    · rename_i t ht
      exact AW.cond ht (fun e => ha _ _ _ ⟨h1.1, h3⟩ (h.1 e)) (fun e => hb _ _ _ ⟨h1.2, h4⟩ (h.2 e))
    · exact h.elim
  | block id c hc => intro f σ Q hd h; exact AW.block (hc _ _ _ hd h)
  | loop lv c hc => intro f σ Q hd h; exact h
  | exit id => intro f σ Q _ h; exact AW.exit h
  | scope c hc => intro f σ Q hd h; exact AW.scope (hc _ _ _ hd h)
  | label l => intro f σ Q _ h; exact AW.label h
  | ret => intro f σ Q _ h; exact AW.ret h
  | rfn g ps lv a b _ _ => intro f σ Q _ h; exact h
  | other c => intro f σ Q _ h; exact h

/-! #### As the simplifier opens it -/
def thenK (E : Env) (n N : Nat) (ow lv : List Nat) (b : ACode) (Q : Kn) : Kn := fun e f σ => match e with
  | .normal => wpA E n N ow b (tf (tpick lv f)) σ Q
  | e => Q e f σ
def loopW (E : Env) (n N : Nat) (ow lv : List Nat) (c : ACode) (f : Nat → AV) (σ : Store) (Q : Kn) : Prop := AW E n N (.loop c.er) f σ Q
def rangeW (E : Env) (n N : Nat) (ow : List Nat) (g : Operand) (ps : Array Tmp) (lv : List Nat) (a b : ACode) (f : Nat → AV) (σ : Store) (Q : Kn) : Prop := AW E n N (.rangeFunc g ps a.er b.er) f σ Q
def condW (v : AV) (A B : Prop) : Prop := match v with
  | .c (.bool t) => (t = true → A) ∧ (t = false → B)
  | _ => False
@[congr] theorem condW_congr {v v' : AV} {A B : Prop} (h : v = v') : condW v A B = condW v' A B := by rw [h]
@[simp ↓ high] theorem condW_true (A B : Prop) : condW (.c (.bool true)) A B = A := by simp [condW]
@[simp ↓ high] theorem condW_false (A B : Prop) : condW (.c (.bool false)) A B = B := by simp [condW]
@[simp ↓] theorem condW_bool (t : Bool) (A B : Prop) : condW (.c (.bool t)) A B = ((t = true → A) ∧ (t = false → B)) := (rfl)
@[simp ↓] theorem wpA_skip (f : Nat → AV) (σ : Store) (Q : Kn) : wpA E n N ow .skip f σ Q = Q .normal f σ := (rfl)
@[simp ↓] theorem wpA_exit (i : Nat) (f : Nat → AV) (σ : Store) (Q : Kn) : wpA E n N ow (.exit i) f σ Q = Q (.exit i) f σ := (rfl)
@[simp ↓] theorem wpA_ret (f : Nat → AV) (σ : Store) (Q : Kn) : wpA E n N ow .ret f σ Q = Q .ret f σ := (rfl)
@[simp ↓] theorem wpA_label (l : Nat) (f : Nat → AV) (σ : Store) (Q : Kn) : wpA E n N ow (.label l) f σ Q = Q .normal f σ := (rfl)
@[simp ↓] theorem wpA_reg (id : Nat) (ops : List Oper) (f : Nat → AV) (σ : Store) (Q : Kn) : wpA E n N ow (.reg id ops) f σ Q = aops E ow N ops.toArray ops f σ (Q .normal) := (rfl)
@[simp ↓] theorem altsW_nil (f : Nat → AV) (σ : Store) (K : (Nat → AV) → Store → Prop) : altsW E N ow f σ K [] = True := (rfl)
@[simp ↓] theorem altsW_cons (a : List Oper) (b : List An) (r : List (List Oper × List An)) (f : Nat → AV) (σ : Store) (K : (Nat → AV) → Store → Prop) : altsW E N ow f σ K ((a, b) :: r) = (aopsE E ow N a.toArray K b a 0 0 [] [] f σ ∧ altsW E N ow f σ K r) := (rfl)
@[simp ↓] theorem wpA_drf (id : Nat) (ops : List Oper) (f0 : Nat) (cs : List Nat) (alts : List (List Oper × List An)) (f : Nat → AV) (σ : Store) (Q : Kn) : wpA E n N ow (.drf id ops f0 cs alts) f σ Q = altsW E N ow f σ (Q .normal) alts := (rfl)
@[simp ↓] theorem wpA_drw (id : Nat) (ops : List Oper) (an : List An) (f : Nat → AV) (σ : Store) (Q : Kn) : wpA E n N ow (.drw id ops an) f σ Q = aopsE E ow N ops.toArray (Q .normal) an ops 0 0 [] [] f σ := (rfl)
@[simp ↓] theorem wpA_seq (lv : List Nat) (a b : ACode) (f : Nat → AV) (σ : Store) (Q : Kn) : wpA E n N ow (.seq lv a b) f σ Q = wpA E n N ow a f σ (thenK E n N ow lv b Q) := (rfl)
@[simp ↓] theorem wpA_cond (c : Operand) (a b : ACode) (f : Nat → AV) (σ : Store) (Q : Kn) : wpA E n N ow (.cond c a b) f σ Q = condW (aeval E.G f c) (wpA E n N ow a f σ Q) (wpA E n N ow b f σ Q) := (rfl)
@[simp ↓] theorem wpA_block (id : Nat) (c : ACode) (f : Nat → AV) (σ : Store) (Q : Kn) : wpA E n N ow (.block id c) f σ Q = wpA E n N ow c f σ (ABlock id Q) := (rfl)
@[simp ↓] theorem wpA_loop (lv : List Nat) (c : ACode) (f : Nat → AV) (σ : Store) (Q : Kn) : wpA E n N ow (.loop lv c) f σ Q = loopW E n N ow lv c f σ Q := (rfl)
@[simp ↓] theorem wpA_rfn (g : Operand) (ps : Array Tmp) (lv : List Nat) (a b : ACode) (f : Nat → AV) (σ : Store) (Q : Kn) : wpA E n N ow (.rfn g ps lv a b) f σ Q = rangeW E n N ow g ps lv a b f σ Q := (rfl)
@[simp ↓] theorem wpA_scope (c : ACode) (f : Nat → AV) (σ : Store) (Q : Kn) : wpA E n N ow (.scope c) f σ Q = wpA E n N ow c f σ (ANoGoto Q) := (rfl)
@[simp ↓] theorem ANoGoto_normal (Q : Kn) (f : Nat → AV) (σ : Store) : ANoGoto Q .normal f σ = Q .normal f σ := (rfl)
@[simp ↓] theorem ANoGoto_ret (Q : Kn) (f : Nat → AV) (σ : Store) : ANoGoto Q .ret f σ = Q .ret f σ := (rfl)
@[simp ↓] theorem ANoGoto_exit (Q : Kn) (i : Nat) (f : Nat → AV) (σ : Store) : ANoGoto Q (.exit i) f σ = Q (.exit i) f σ := (rfl)
@[simp ↓] theorem thenK_normal (lv : List Nat) (b : ACode) (Q : Kn) (f : Nat → AV) (σ : Store) : thenK E n N ow lv b Q .normal f σ = wpA E n N ow b (tf (tpick lv f)) σ Q := (rfl)
@[simp ↓] theorem thenK_exit (lv : List Nat) (b : ACode) (Q : Kn) (i : Nat) (f : Nat → AV) (σ : Store) : thenK E n N ow lv b Q (.exit i) f σ = Q (.exit i) f σ := (rfl)
@[simp ↓] theorem thenK_ret (lv : List Nat) (b : ACode) (Q : Kn) (f : Nat → AV) (σ : Store) : thenK E n N ow lv b Q .ret f σ = Q .ret f σ := (rfl)
end
end Go.AW
end

section
set_option linter.unusedVariables false
set_option linter.unusedSimpArgs false
set_option linter.unnecessarySimpa false
namespace Go.AW
open Go

/-- The function answers r and leaves the store as it was. -/
def Pur (E : Env) (k : FuncId) (args : List AV) (r : AV) : Prop := ∀ σ, ACalls E k args σ fun a s => a = r ∧ s = σ

theorem SR.ps_map {σ σ2 : Store} (es : List AV) (h : ∀ x ∈ es, ∀ (j : Nat) (y : AV), x.cells[j]? = some y → SR σ σ2 y (frz y)) : SR σ σ2 (.ps es) (.ps (frzL es)) := by
  rw [frzL_eq]
  refine .ps es _ (by simp) (fun k a b ha hb => ?_) (fun k a b j x y ha hb hx hy => ?_)
  · rw [List.getElem?_map, ha] at hb
    cases hb
    rw [frz_cells, frzL_eq, List.length_map]
  · rw [List.getElem?_map, ha] at hb
    cases hb
    rw [frz_cells, frzL_eq, List.getElem?_map, hx] at hy
    cases hy
    exact h a (List.mem_of_getElem? ha) j x hx
theorem mem_cells_sz {a y : AV} {j : Nat} (h : a.cells[j]? = some y) : SizeOf.sizeOf y ≤ SizeOf.sizeOf a := by
  cases a <;> simp only [AV.cells] at h
  case agg cs =>
    have := List.sizeOf_lt_of_mem (List.mem_of_getElem? h)
    simp; omega
  all_goals (cases j <;> simp at h; subst h; exact Nat.le_refl _)
theorem sr_frz (σ σ2 : Store) (a : AV) : SR σ σ2 a (frz a) := by
  match a with
  | .nl => rw [frz_nl]; exact .nl
  | .agg cs =>
    rw [frz_agg, frzL_eq]
    refine .agg _ _ (by simp) fun j x y hx hy => ?_
    rw [List.getElem?_map, hx] at hy
    cases hy
    have := List.sizeOf_lt_of_mem (List.mem_of_getElem? hx)
    exact sr_frz σ σ2 x
  | .tup cs =>
    rw [frz_tup, frzL_eq]
    refine .tup _ _ (by simp) fun j x y hx hy => ?_
    rw [List.getElem?_map, hx] at hy
    cases hy
    have := List.sizeOf_lt_of_mem (List.mem_of_getElem? hx)
    exact sr_frz σ σ2 x
  | .ps es =>
    rw [frz_ps]
    refine SR.ps_map es fun x hx j y hy => ?_
    have h1 := List.sizeOf_lt_of_mem hx
    have h2 := mem_cells_sz hy
    exact sr_frz σ σ2 y
  | .lg i es =>
    rw [frz_lg]
    refine .lg i es _ (SR.ps_map es fun x hx j y hy => ?_)
    have h1 := List.sizeOf_lt_of_mem hx
    have h2 := mem_cells_sz hy
    exact sr_frz σ σ2 y
  | .ifc t a =>
    rw [frz_ifc]
    exact .ifc t a _ (sr_frz σ σ2 a)
  | .c v => rw [frz_c]; exact .refl _
  | .junk => rw [frz_junk]; exact .refl _
  | .fs l => rw [frz_fs]; exact .refl _
  | .pp l => rw [frz_pp]; exact .refl _
  | .rs i g o n => rw [frz_rs]; exact .refl _
  | .rc i g o n c => rw [frz_rc]; exact .refl _
  | .rp i g k o => rw [frz_rp]; exact .refl _
  | .mp i => rw [frz_mp]; exact .refl _
  | .fn f x y => rw [frz_fn]; exact .refl _
termination_by SizeOf.sizeOf a
decreasing_by all_goals (simp; omega)

/-- The objects of the store as it was are as they were. -/
def Below (σ0 σ : Store) : Prop := σ0.next ≤ σ.next ∧ ∀ i, i < σ0.next → σ.get i = σ0.get i
@[simp] theorem Below.refl (σ : Store) : Below σ σ := ⟨Nat.le_refl _, fun _ _ => rfl⟩
theorem Below.alloc {σ0 σ : Store} (h : Below σ0 σ) (o : AObj) : Below σ0 (σ.alloc o) := ⟨by simp; have := h.1; omega, fun i hi => by simp [show i ≠ σ.next by have := h.1; omega]; exact h.2 i hi⟩
theorem Below.set {σ0 σ : Store} (h : Below σ0 σ) {k : Nat} (hk : σ0.next ≤ k) (o : AObj) : Below σ0 (σ.set k o) := ⟨by simpa using h.1, fun i hi => by simp [show i ≠ k by omega]; exact h.2 i hi⟩
@[simp] theorem Below.alloc' (σ : Store) (o : AObj) : Below σ (σ.alloc o) := (Below.refl σ).alloc o

/-- A row or a pointer of the callee's own, which is dropped from the store: what it holds. -/
def frzT (n : Nat) (σ : Store) : AV → AV
  | .rs i g off len => if n ≤ i then (match σ.get i with
    | some (.arr _ g' es) => if g' = g ∧ off + len ≤ es.length then .ps (frzL ((es.drop off).take len)) else .rs i g off len
    | _ => .rs i g off len) else .rs i g off len
  | .rc i g off len cap => if n ≤ i then (match σ.get i with
    | some (.arr _ g' es) => if g' = g ∧ off + len ≤ es.length then .ps (frzL ((es.drop off).take len)) else .rc i g off len cap
    | _ => .rc i g off len cap) else .rc i g off len cap
  | .rp i g k off => if n ≤ i then (match σ.get i with
    | some (.arr _ g' es) => if g' = g then (match es[k]? with
      | some e => .pp (frzL (e.cells.drop off))
      | none => .rp i g k off) else .rp i g k off
    | _ => .rp i g k off) else .rp i g k off
  | .c v => .c v
  | .junk => .junk
  | .nl => .ps []
  | .agg cs => .agg (frzL cs)
  | .tup cs => .tup (frzL cs)
  | .ps es => .ps (frzL es)
  | .lg _ es => .ps (frzL es)
  | .fs l => .fs l
  | .pp cs => .pp cs
  | .mp i => .mp i
  | .fn f x y => .fn f x y
  | .ifc t a => .ifc t (frz a)
/-- The same for what a tuple or an aggregate holds. -/
def frzU (n : Nat) (σ : Store) : AV → AV
  | .agg cs => .agg (cs.map (frzT n σ))
  | a => frzT n σ a
def frzD (n : Nat) (σ : Store) : AV → AV
  | .tup cs => .tup (cs.map (frzU n σ))
  | a => frzU n σ a
section
variable (n : Nat) (σ : Store)
@[simp] theorem frzT_rs (i g off len : Nat) : frzT n σ (.rs i g off len) = if n ≤ i then (match σ.get i with
    | some (.arr _ g' es) => if g' = g ∧ off + len ≤ es.length then .ps (frzL ((es.drop off).take len)) else .rs i g off len
    | _ => .rs i g off len) else .rs i g off len := by rw [frzT]
@[simp] theorem frzT_rc (i g off len cap : Nat) : frzT n σ (.rc i g off len cap) = if n ≤ i then (match σ.get i with
    | some (.arr _ g' es) => if g' = g ∧ off + len ≤ es.length then .ps (frzL ((es.drop off).take len)) else .rc i g off len cap
    | _ => .rc i g off len cap) else .rc i g off len cap := by rw [frzT]
@[simp] theorem frzT_rp (i g k off : Nat) : frzT n σ (.rp i g k off) = if n ≤ i then (match σ.get i with
    | some (.arr _ g' es) => if g' = g then (match es[k]? with
      | some e => .pp (frzL (e.cells.drop off))
      | none => .rp i g k off) else .rp i g k off
    | _ => .rp i g k off) else .rp i g k off := by rw [frzT]
@[simp] theorem frzT_c (v : Value) : frzT n σ (.c v) = .c v := by rw [frzT]
@[simp] theorem frzT_junk : frzT n σ .junk = .junk := by rw [frzT]
@[simp] theorem frzT_nl : frzT n σ .nl = .ps [] := by rw [frzT]
@[simp] theorem frzT_agg (cs : List AV) : frzT n σ (.agg cs) = .agg (frzL cs) := by rw [frzT]
@[simp] theorem frzT_tup (cs : List AV) : frzT n σ (.tup cs) = .tup (frzL cs) := by rw [frzT]
@[simp] theorem frzT_ps (es : List AV) : frzT n σ (.ps es) = .ps (frzL es) := by rw [frzT]
@[simp] theorem frzT_lg (i : Nat) (es : List AV) : frzT n σ (.lg i es) = .ps (frzL es) := by rw [frzT]
@[simp] theorem frzT_fs (l : List UInt8) : frzT n σ (.fs l) = .fs l := by rw [frzT]
@[simp] theorem frzT_pp (cs : List AV) : frzT n σ (.pp cs) = .pp cs := by rw [frzT]
@[simp] theorem frzT_mp (i : Nat) : frzT n σ (.mp i) = .mp i := by rw [frzT]
@[simp] theorem frzT_fn (f : Fn) (x y : List AV) : frzT n σ (.fn f x y) = .fn f x y := by rw [frzT]
@[simp] theorem frzT_ifc (t : TypeId) (a : AV) : frzT n σ (.ifc t a) = .ifc t (frz a) := by rw [frzT]
@[simp] theorem frzU_agg (cs : List AV) : frzU n σ (.agg cs) = .agg (cs.map (frzT n σ)) := by rw [frzU]
@[simp] theorem frzD_tup (cs : List AV) : frzD n σ (.tup cs) = .tup (cs.map (frzU n σ)) := by rw [frzD]
@[simp] theorem frzD_agg (cs : List AV) : frzD n σ (.agg cs) = .agg (cs.map (frzT n σ)) := by simp [frzD]
section
variable (a : AV)
theorem frzU_eq (h : ∀ cs, a ≠ .agg cs) : frzU n σ a = frzT n σ a := by cases a <;> first | rfl | exact absurd rfl (h _)
theorem frzD_eq (h : ∀ cs, a ≠ .agg cs) (h' : ∀ cs, a ≠ .tup cs) : frzD n σ a = frzT n σ a := by cases a <;> first | rfl | exact absurd rfl (h _) | exact absurd rfl (h' _)
end
@[simp] theorem frzU_rs (i g off len : Nat) : frzU n σ (.rs i g off len) = frzT n σ (.rs i g off len) := rfl
@[simp] theorem frzU_rc (i g off len cap : Nat) : frzU n σ (.rc i g off len cap) = frzT n σ (.rc i g off len cap) := rfl
@[simp] theorem frzU_rp (i g k off : Nat) : frzU n σ (.rp i g k off) = frzT n σ (.rp i g k off) := rfl
@[simp] theorem frzU_c (v : Value) : frzU n σ (.c v) = .c v := by rw [frzU_eq _ _ _ (by simp), frzT]
@[simp] theorem frzU_junk : frzU n σ .junk = .junk := by rw [frzU_eq _ _ _ (by simp), frzT]
@[simp] theorem frzU_nl : frzU n σ .nl = .ps [] := by rw [frzU_eq _ _ _ (by simp), frzT]
@[simp] theorem frzU_tup (cs : List AV) : frzU n σ (.tup cs) = .tup (frzL cs) := by rw [frzU_eq _ _ _ (by simp), frzT]
@[simp] theorem frzU_ps (es : List AV) : frzU n σ (.ps es) = .ps (frzL es) := by rw [frzU_eq _ _ _ (by simp), frzT]
@[simp] theorem frzU_lg (i : Nat) (es : List AV) : frzU n σ (.lg i es) = .ps (frzL es) := by rw [frzU_eq _ _ _ (by simp), frzT]
@[simp] theorem frzU_fs (l : List UInt8) : frzU n σ (.fs l) = .fs l := by rw [frzU_eq _ _ _ (by simp), frzT]
@[simp] theorem frzU_pp (cs : List AV) : frzU n σ (.pp cs) = .pp cs := by rw [frzU_eq _ _ _ (by simp), frzT]
@[simp] theorem frzU_mp (i : Nat) : frzU n σ (.mp i) = .mp i := by rw [frzU_eq _ _ _ (by simp), frzT]
@[simp] theorem frzU_fn (f : Fn) (x y : List AV) : frzU n σ (.fn f x y) = .fn f x y := by rw [frzU_eq _ _ _ (by simp), frzT]
@[simp] theorem frzU_ifc (t : TypeId) (a : AV) : frzU n σ (.ifc t a) = .ifc t (frz a) := by rw [frzU_eq _ _ _ (by simp), frzT]
@[simp] theorem frzD_rs (i g off len : Nat) : frzD n σ (.rs i g off len) = frzT n σ (.rs i g off len) := rfl
@[simp] theorem frzD_rc (i g off len cap : Nat) : frzD n σ (.rc i g off len cap) = frzT n σ (.rc i g off len cap) := rfl
@[simp] theorem frzD_rp (i g k off : Nat) : frzD n σ (.rp i g k off) = frzT n σ (.rp i g k off) := rfl
@[simp] theorem frzD_c (v : Value) : frzD n σ (.c v) = .c v := by rw [frzD_eq _ _ _ (by simp) (by simp), frzT]
@[simp] theorem frzD_junk : frzD n σ .junk = .junk := by rw [frzD_eq _ _ _ (by simp) (by simp), frzT]
@[simp] theorem frzD_nl : frzD n σ .nl = .ps [] := by rw [frzD_eq _ _ _ (by simp) (by simp), frzT]
@[simp] theorem frzD_ps (es : List AV) : frzD n σ (.ps es) = .ps (frzL es) := by rw [frzD_eq _ _ _ (by simp) (by simp), frzT]
@[simp] theorem frzD_lg (i : Nat) (es : List AV) : frzD n σ (.lg i es) = .ps (frzL es) := by rw [frzD_eq _ _ _ (by simp) (by simp), frzT]
@[simp] theorem frzD_fs (l : List UInt8) : frzD n σ (.fs l) = .fs l := by rw [frzD_eq _ _ _ (by simp) (by simp), frzT]
@[simp] theorem frzD_pp (cs : List AV) : frzD n σ (.pp cs) = .pp cs := by rw [frzD_eq _ _ _ (by simp) (by simp), frzT]
@[simp] theorem frzD_mp (i : Nat) : frzD n σ (.mp i) = .mp i := by rw [frzD_eq _ _ _ (by simp) (by simp), frzT]
@[simp] theorem frzD_fn (f : Fn) (x y : List AV) : frzD n σ (.fn f x y) = .fn f x y := by rw [frzD_eq _ _ _ (by simp) (by simp), frzT]
@[simp] theorem frzD_ifc (t : TypeId) (a : AV) : frzD n σ (.ifc t a) = .ifc t (frz a) := by rw [frzD_eq _ _ _ (by simp) (by simp), frzT]
theorem sr_row {σ2 : Store} (hn : ∀ i, n ≤ i → σ2.get i = none) {i g off len : Nat} {T : TypeId} {es : List AV} (hi : n ≤ i) (ho : σ.get i = some (.arr T g es)) (hl : off + len ≤ es.length) : SR σ σ2 (.rs i g off len) (.ps (frzL ((es.drop off).take len))) := by
  have hget : ∀ k (a b : AV), es[off + k]? = some a → (frzL ((es.drop off).take len))[k]? = some b → b = frz a := by
    intro k a b ha hb
    rw [frzL_eq, List.getElem?_map, List.getElem?_take] at hb
    split at hb
    · rw [List.getElem?_drop, ha] at hb
      cases hb; rfl
    · simp at hb
  refine .rs i g off len T es _ ho (hn i hi) hl (by simp [frzL_eq]; omega) (fun k a b ha hb => ?_) (fun k a b j x y ha hb hx hy => ?_)
  · rw [hget k a b ha hb, frz_cells, frzL_eq, List.length_map]
  · rw [hget k a b ha hb, frz_cells, frzL_eq, List.getElem?_map, hx] at hy
    cases hy
    exact sr_frz _ _ _
theorem sr_frzT {σ2 : Store} (hn : ∀ i, n ≤ i → σ2.get i = none) (a : AV) : SR σ σ2 a (frzT n σ a) := by
  cases a
  case rs i g off len =>
    rw [frzT_rs]
    split
    · rename_i hi
      split
      · rename_i T g' es ho
        split
        · rename_i hc
          obtain ⟨rfl, hl⟩ := hc
          exact sr_row n σ hn hi ho hl
        · exact .refl _
      · exact .refl _
    · exact .refl _
  case rc i g off len cap =>
    rw [frzT_rc]
    split
    · rename_i hi
      split
      · rename_i T g' es ho
        split
        · rename_i hc
          obtain ⟨rfl, hl⟩ := hc
          exact .rc _ _ _ _ _ _ (sr_row n σ hn hi ho hl)
        · exact .refl _
      · exact .refl _
    · exact .refl _
  case rp i g k off =>
    rw [frzT_rp]
    split
    · rename_i hi
      split
      · rename_i T g' es ho
        split
        · rename_i hg
          subst hg
          split
          · rename_i e he
            refine .rp i g' k off T es e _ ho (hn i hi) he (by simp [frzL_eq]) fun j x y hx hy => ?_
            rw [frzL_eq, List.getElem?_map, hx] at hy
            cases hy
            exact sr_frz _ _ _
          · exact .refl _
        · exact .refl _
      · exact .refl _
    · exact .refl _
  case c v => rw [frzT_c]; exact .refl _
  case junk => rw [frzT_junk]; exact .refl _
  case fs l => rw [frzT_fs]; exact .refl _
  case pp l => rw [frzT_pp]; exact .refl _
  case mp i => rw [frzT_mp]; exact .refl _
  case fn f x y => rw [frzT_fn]; exact .refl _
  case nl => rw [frzT_nl, ← frz_nl]; exact sr_frz _ _ _
  case agg cs => rw [frzT_agg, ← frz_agg]; exact sr_frz _ _ _
  case tup cs => rw [frzT_tup, ← frz_tup]; exact sr_frz _ _ _
  case ps cs => rw [frzT_ps, ← frz_ps]; exact sr_frz _ _ _
  case lg i cs => rw [frzT_lg, ← frz_lg i]; exact sr_frz _ _ _
  case ifc t a => rw [frzT_ifc, ← frz_ifc]; exact sr_frz _ _ _
theorem sr_frzU {σ2 : Store} (hn : ∀ i, n ≤ i → σ2.get i = none) (a : AV) : SR σ σ2 a (frzU n σ a) := by
  by_cases h : ∃ cs, a = .agg cs
  · obtain ⟨cs, rfl⟩ := h
    rw [frzU_agg]
    refine .agg _ _ (by simp) fun j x y hx hy => ?_
    rw [List.getElem?_map, hx] at hy
    cases hy
    exact sr_frzT n σ hn x
  · rw [frzU_eq n σ a fun cs e => h ⟨cs, e⟩]
    exact sr_frzT n σ hn a
theorem sr_frzD {σ2 : Store} (hn : ∀ i, n ≤ i → σ2.get i = none) (a : AV) : SR σ σ2 a (frzD n σ a) := by
  by_cases h : ∃ cs, a = .tup cs
  · obtain ⟨cs, rfl⟩ := h
    rw [frzD_tup]
    refine .tup _ _ (by simp) fun j x y hx hy => ?_
    rw [List.getElem?_map, hx] at hy
    cases hy
    exact sr_frzU n σ hn x
  · have : frzD n σ a = frzU n σ a := by cases a <;> first | rfl | exact absurd ⟨_, rfl⟩ h
    rw [this]
    exact sr_frzU n σ hn a
end
def leafP (σ0 : Store) (r : AV) (σ : Store) (a : AV) : Prop := frzD σ0.next σ a = r ∧ Below σ0 σ
@[simp] theorem leafP_eq (σ0 : Store) (r : AV) (σ : Store) (a : AV) : leafP σ0 r σ a = (frzD σ0.next σ a = r ∧ Below σ0 σ) := (rfl)
/-- Behind the body of such a function. -/
def retP (E : Env) (rs : List ResultVar) (σ0 : Store) (r : AV) : Kn := fun e f σ => match e with
  | .normal => aRes E rs f σ fun l => leafP σ0 r σ (pack l)
  | .ret => aRes E rs f σ fun l => leafP σ0 r σ (pack l)
  | _ => False
@[simp ↓] theorem retP_ret (E : Env) (rs : List ResultVar) (σ0 : Store) (r : AV) (f : Nat → AV) (σ : Store) : retP E rs σ0 r .ret f σ = aRes E rs f σ fun l => leafP σ0 r σ (pack l) := (rfl)
@[simp ↓] theorem retP_normal (E : Env) (rs : List ResultVar) (σ0 : Store) (r : AV) (f : Nat → AV) (σ : Store) : retP E rs σ0 r .normal f σ = aRes E rs f σ fun l => leafP σ0 r σ (pack l) := (rfl)

def resTmps (rs : List ResultVar) : List Nat := (rs.map fun
  | .tmp t => t
  | .cell t _ => t).foldl (fun l x => insN x l) []

theorem aRes_mono {E : Env} {f : Nat → AV} {σ : Store} : ∀ (rs : List ResultVar) {K K' : List AV → Prop}, (∀ l, K l → K' l) → aRes E rs f σ K → aRes E rs f σ K'
  | [], K, K', h, hk => h _ hk
  | .tmp t :: rs, K, K', h, hk => aRes_mono rs (fun l hl => h _ hl) hk
  | .cell a t :: rs, K, K', h, hk => by
    simp only [aRes] at hk ⊢
    have hd : ∀ v, aRes E rs f σ (fun l => K (v :: l)) → aRes E rs f σ (fun l => K' (v :: l)) := fun v hv => aRes_mono rs (fun l hl => h _ hl) hv
    revert hk
    unfold aLoad aLoadC
    split
    · rintro ⟨h0, hk⟩
      refine ⟨h0, ?_⟩
      split
      · rename_i hA; rw [if_pos hA] at hk; exact ⟨hk.1, hk.2.1, hd _ hk.2.2⟩
      · rename_i hA; rw [if_neg hA] at hk
        split at hk
        · exact hd _ hk
        · exact hk
    · split
      · rintro ⟨hg, hk⟩
        refine ⟨hg, ?_⟩
        split at hk
        · obtain ⟨h0, hk⟩ := hk
          refine ⟨h0, ?_⟩
          split
          · rename_i hA; rw [if_pos hA] at hk; exact ⟨hk.1, hk.2.1, hd _ hk.2.2⟩
          · rename_i hA; rw [if_neg hA] at hk
            split at hk
            · exact hd _ hk
            · exact hk
        · exact hk
      · exact fun h => h
    · exact fun h => h

theorem Pur.enter {E : Env} {k : FuncId} {fn : Func} {c : Code} {args : List AV} {r : AV} {N : Nat} {rs : Array ResultVar} (ow : List Nat) (hf : E.P.funcs[k]? = some fn) (hb : fn.body = some c) (hn : fn.ntmps = N) (hrs : fn.results = rs)
    (hm : E.P.follows .mixedOrders = true) (hd : drawsT (annot ow (resTmps rs.toList) c [] []) = drawsU (annot ow (resTmps rs.toList) c [] [])) (hN : args.length ≤ N) (hr : ∀ m, Bel m r)
    (h : ∀ σ, StoreBel σ → wpA E σ.next N ow (annot ow (resTmps rs.toList) c [] []) (tf (targs args 0)) σ (retP E rs.toList σ r)) : Pur E k args r := by
  intro σ
  rw [← argF_tf] at h
  refine ACalls.enter hf hb hn hrs hN fun hσ => ?_
  have h1 := wpA_ok hm _ _ _ _ hd (h σ hσ)
  rw [er_annot] at h1
  refine AW.mono h1 ?_
  intro e f σ' hq
  have key : (aRes E rs.toList f σ' fun l => leafP σ r σ' (pack l)) → aRes E rs.toList f σ' fun l => Fin σ.next σ' (pack l) fun a s => a = r ∧ s = σ := by
    refine aRes_mono _ fun l hl => ?_
    obtain ⟨h1, h2, h3⟩ := hl
    exact Fin.back hσ h2 (fun i o ho => by rw [h3 i (hσ i o ho).1]; exact ho) (h1 ▸ sr_frzD _ _ (fun i hi => by cases hg : σ.get i with | none => rfl | some x => have := (hσ i x hg).1; omega) _) (hr _) ⟨rfl, rfl⟩
  cases e <;> first | exact key hq | exact hq.elim

/-- Behind the body of a function with a contract of its own. -/
def retA (E : Env) (rs : List ResultVar) (n : Nat) (Q : AV → Store → Prop) : Kn := fun e f σ => match e with
  | .normal => aRes E rs f σ fun l => Fin n σ (pack l) Q
  | .ret => aRes E rs f σ fun l => Fin n σ (pack l) Q
  | _ => False
@[simp ↓] theorem retA_ret (E : Env) (rs : List ResultVar) (n : Nat) (Q : AV → Store → Prop) (f : Nat → AV) (σ : Store) : retA E rs n Q .ret f σ = aRes E rs f σ fun l => Fin n σ (pack l) Q := (rfl)
@[simp ↓] theorem retA_normal (E : Env) (rs : List ResultVar) (n : Nat) (Q : AV → Store → Prop) (f : Nat → AV) (σ : Store) : retA E rs n Q .normal f σ = aRes E rs f σ fun l => Fin n σ (pack l) Q := (rfl)
theorem ACalls.enterA {E : Env} {k : FuncId} {fn : Func} {c : Code} {args : List AV} {σ : Store} {Q : AV → Store → Prop} {N : Nat} {rs : Array ResultVar} (ow : List Nat) (hf : E.P.funcs[k]? = some fn) (hb : fn.body = some c) (hn : fn.ntmps = N) (hrs : fn.results = rs)
    (hm : E.P.follows .mixedOrders = true) (hd : drawsT (annot ow (resTmps rs.toList) c [] []) = drawsU (annot ow (resTmps rs.toList) c [] [])) (hN : args.length ≤ N)
    (h : StoreBel σ → wpA E σ.next N ow (annot ow (resTmps rs.toList) c [] []) (tf (targs args 0)) σ (retA E rs.toList σ.next Q)) : ACalls E k args σ Q := by
  refine ACalls.enter hf hb hn hrs hN fun hσ => ?_
  have h1 := wpA_ok hm _ _ _ _ hd (h hσ)
  rw [er_annot, ← argF_tf] at h1
  refine AW.mono h1 ?_
  intro e f σ' hq
  cases e <;> first | exact hq | exact hq.elim
/-- The store is as it was below, the answer names nothing new. -/
theorem Fin.pur {σ0 σ : Store} {a r : AV} {Q : AV → Store → Prop} (hσ : StoreBel σ0) (hr : Bel σ0.next r) (h1 : frz a = r) (h2 : Below σ0 σ) (h : Q r σ0) : Fin σ0.next σ a Q :=
  Fin.back hσ h2.1 (fun i o ho => by rw [h2.2 i (hσ i o ho).1]; exact ho) (h1 ▸ sr_frz _ _ _) hr h

/-- A row of one's own in the answer. -/
theorem Fin.own {σ0 σ : Store} {a r : AV} {Q : AV → Store → Prop} (hσ : StoreBel σ0) (hr : Bel σ0.next r) (h1 : frzD σ0.next σ a = r) (h2 : Below σ0 σ) (h : Q r σ0) : Fin σ0.next σ a Q :=
  Fin.back hσ h2.1 (fun i o ho => by rw [h2.2 i (hσ i o ho).1]; exact ho) (h1 ▸ sr_frzD _ _ (fun i hi => by cases hg : σ0.get i with | none => rfl | some x => have := (hσ i x hg).1; omega) _) hr h

theorem Fin.eqv {σ0 σ : Store} {a r : AV} (hσ : StoreBel σ0) (h1 : frz a = r) (h2 : Below σ0 σ) (hr : Bel σ0.next r) : Fin σ0.next σ a fun a s => a = r ∧ s = σ0 := Fin.pur hσ hr h1 h2 ⟨rfl, rfl⟩

/-- A call of such a function. -/
theorem Pur.call {E : Env} {k : FuncId} {args : List AV} {r : AV} (h : Pur E k args r) {σ : Store} {K : AV → Store → Prop} (hk : K r σ) : ACalls E k args σ K := (h σ).mono fun a s h => by obtain ⟨rfl, rfl⟩ := h; exact hk

/-! ### Loops -/
def ovGet : List (Nat × AV) → Nat → AV → AV
  | [], _, d => d
  | p :: l, t, d => if t = p.1 then p.2 else ovGet l t d
/-- As a loop's head knows it: what a growing row holds is frozen, the row goes on growing. -/
def kz : AV → AV
  | .lg i es => .lg i (frzL es)
  | .nl => .nl
  | a => frz a
@[simp] theorem kz_lg (i : Nat) (es : List AV) : kz (.lg i es) = .lg i (frzL es) := (rfl)
@[simp] theorem kz_nl : kz .nl = .nl := (rfl)
@[simp] theorem kz_c (v : Value) : kz (.c v) = .c v := by show frz _ = _; simp
@[simp] theorem kz_ps (l : List AV) : kz (.ps l) = .ps (frzL l) := by show frz _ = _; simp
@[simp] theorem kz_agg (l : List AV) : kz (.agg l) = .agg (frzL l) := by show frz _ = _; simp
@[simp] theorem kz_tup (l : List AV) : kz (.tup l) = .tup (frzL l) := by show frz _ = _; simp
@[simp] theorem kz_rs (i g o n : Nat) : kz (.rs i g o n) = .rs i g o n := by show frz _ = _; simp
@[simp] theorem kz_rc (i g o n c : Nat) : kz (.rc i g o n c) = .rc i g o n c := by show frz _ = _; simp
@[simp] theorem kz_rp (i g k o : Nat) : kz (.rp i g k o) = .rp i g k o := by show frz _ = _; simp
@[simp] theorem kz_mp (i : Nat) : kz (.mp i) = .mp i := by show frz _ = _; simp
@[simp] theorem kz_pp (l : List AV) : kz (.pp l) = .pp l := by show frz _ = _; simp
@[simp] theorem kz_fn (f : Fn) (a b : List AV) : kz (.fn f a b) = .fn f a b := by show frz _ = _; simp
@[simp] theorem kz_ifc (t : TypeId) (a : AV) : kz (.ifc t a) = .ifc t (frz a) := by show frz _ = _; simp
@[simp] theorem kz_junk : kz .junk = .junk := by show frz _ = _; simp
theorem sr_kz (σ σ2 : Store) (a : AV) : SR σ σ2 a (kz a) := by
  unfold kz
  split
  · rename_i i es
    refine .lgl i es _ (by simp [frzL_eq]) (fun k a b ha hb => ?_) (SR.ps_map es fun x _ j y _ => sr_frz σ σ2 y)
    rw [frzL_eq, List.getElem?_map, ha] at hb
    cases hb
    rw [frz_cells, frzL_eq, List.length_map]
  · exact .refl _
  · exact sr_frz σ σ2 _

/-- A list of variables as a tree. -/
def tL : List (Nat × AV) → Tr
  | [] => .nil
  | p :: l => (tL l).put (path p.1) p.2
@[simp] theorem tL_nil : tL [] = .nil := rfl
@[simp] theorem tL_cons (p : Nat × AV) (l : List (Nat × AV)) : tL (p :: l) = (tL l).put (path p.1) p.2 := rfl
theorem fr_tL : ∀ l : List (Nat × AV), fr l = tf (tL l)
  | [] => rfl
  | p :: l => by
    funext t
    have ih := congrFun (fr_tL l) t
    rw [fr_cons', ih]
    simp only [tf, tL, Tr.get_put]
    by_cases h : t = p.1
    · subst h; simp
    · rw [if_neg h, if_neg fun e => h (path_inj e)]
/-- The variables at a loop's head: those that change, and the others as they were ahead of the loop. -/
def hdL (lv : List Nat) (ov : List (Nat × AV)) (f : Nat → AV) : List (Nat × AV) := lv.map fun t => (t, ovGet ov t (f t))
@[simp] theorem ovGet_nil (t : Nat) (d : AV) : ovGet [] t d = d := rfl
@[simp] theorem ovGet_cons (p : Nat × AV) (l : List (Nat × AV)) (t : Nat) (d : AV) : ovGet (p :: l) t d = if t = p.1 then p.2 else ovGet l t d := rfl
@[simp] theorem hdL_nil (ov : List (Nat × AV)) (f : Nat → AV) : hdL [] ov f = [] := rfl
@[simp] theorem hdL_cons (t : Nat) (lv : List Nat) (ov : List (Nat × AV)) (f : Nat → AV) : hdL (t :: lv) ov f = (t, ovGet ov t (f t)) :: hdL lv ov f := rfl
def KnowsL (N : Nat) (f : Nat → AV) : List (Nat × AV) → Prop
  | [] => True
  | p :: l => (p.1 < N ∧ kz (f p.1) = p.2) ∧ KnowsL N f l
@[simp] theorem KnowsL_nil (N : Nat) (f : Nat → AV) : KnowsL N f [] = True := (rfl)
@[simp] theorem KnowsL_cons (N : Nat) (f : Nat → AV) (p : Nat × AV) (l : List (Nat × AV)) : KnowsL N f (p :: l) = ((p.1 < N ∧ kz (f p.1) = p.2) ∧ KnowsL N f l) := (rfl)
theorem KnowsL.knows {N : Nat} {f : Nat → AV} : ∀ {l : List (Nat × AV)}, KnowsL N f l → ∀ p ∈ l, p.1 < N ∧ kz (f p.1) = p.2
  | [], _ => fun p hp => by simp at hp
  | q :: l, h => fun p hp => by
    rcases List.mem_cons.1 hp with rfl | hp
    · exact h.1
    · exact h.2.knows p hp
/-- Everything that is known of these variables lies below m. -/
def BelL (m : Nat) : List (Nat × AV) → Prop
  | [] => True
  | p :: l => Bel m p.2 ∧ BelL m l
@[simp] theorem BelL_nil (m : Nat) : BelL m [] = True := (rfl)
@[simp] theorem BelL_cons (m : Nat) (p : Nat × AV) (l : List (Nat × AV)) : BelL m (p :: l) = (Bel m p.2 ∧ BelL m l) := (rfl)
theorem BelL.mem {m : Nat} : ∀ {l : List (Nat × AV)}, BelL m l → ∀ p ∈ l, Bel m p.2
  | [], _, p, hp => by simp at hp
  | q :: l, h, p, hp => by
    rcases List.mem_cons.1 hp with rfl | hp
    · exact h.1
    · exact h.2.mem p hp
theorem Below.forget {n : Nat} {s σ : Store} (h : Below s σ) (hn : n ≤ s.next) (hb : StoreBel s) : Forget n σ s :=
  ⟨hn, h.1, fun i o ho => by rw [h.2 i (hb i o ho).1]; exact ho, .inr hb⟩
theorem StoreBel.alloc_log {σ : Store} (h : StoreBel σ) (T : TypeId) (n : Nat) : StoreBel (σ.alloc (.log T n)) := by
  intro i o ho
  simp only [alloc_get] at ho
  split at ho
  · rename_i e; subst e; cases ho; exact ⟨by simp, trivial⟩
  · obtain ⟨h1, h2⟩ := h i o ho
    refine ⟨by simp; omega, ?_⟩
    cases o with
    | arr T g es => exact fun e he x hx => (h2 e he x hx).mono (by simp)
    | map ents born clock => exact fun e he => (h2 e he).mono (by simp)
    | log T n => trivial
    | lp b L vs => exact fun a ha => (h2 a ha).mono (by simp)
    | it o => trivial
    | mi m since seen last => exact Nat.lt_of_lt_of_le h2 (by simp)
theorem StoreBel.alloc_arr {σ : Store} (h : StoreBel σ) {T : TypeId} {g : Nat} {es : List AV} (hes : ∀ e ∈ es, ∀ x ∈ e.cells, Bel (σ.next + 1) x) : StoreBel (σ.alloc (.arr T g es)) := by
  intro i o ho
  simp only [alloc_get] at ho
  split at ho
  · rename_i e; subst e; cases ho; exact ⟨by simp, fun e he x hx => hes e he x hx⟩
  · obtain ⟨h1, h2⟩ := h i o ho
    refine ⟨by simp; omega, ?_⟩
    cases o with
    | arr T g es => exact fun e he x hx => (h2 e he x hx).mono (by simp)
    | map ents born clock => exact fun e he => (h2 e he).mono (by simp)
    | log T n => trivial
    | lp b L vs => exact fun a ha => (h2 a ha).mono (by simp)
    | it o => trivial
    | mi m since seen last => exact Nat.lt_of_lt_of_le h2 (by simp)
/-- Behind a round: these variables, this store (what was made beside it is forgotten). -/
def roundK (N : Nat) (L : List (Nat × AV)) (s : Store) (p : Prop) (Q : Kn) : Kn := fun e f σ => match e with
  | .normal => Below s σ ∧ KnowsL N f L ∧ p
  | e => Q e f σ
@[simp ↓] theorem roundK_normal (N : Nat) (L : List (Nat × AV)) (s : Store) (p : Prop) (Q : Kn) (f : Nat → AV) (σ : Store) : roundK N L s p Q .normal f σ = (Below s σ ∧ KnowsL N f L ∧ p) := (rfl)
@[simp ↓] theorem roundK_exit (N : Nat) (L : List (Nat × AV)) (s : Store) (p : Prop) (Q : Kn) (i : Nat) (f : Nat → AV) (σ : Store) : roundK N L s p Q (.exit i) f σ = Q (.exit i) f σ := (rfl)
@[simp ↓] theorem roundK_ret (N : Nat) (L : List (Nat × AV)) (s : Store) (p : Prop) (Q : Kn) (f : Nat → AV) (σ : Store) : roundK N L s p Q .ret f σ = Q .ret f σ := (rfl)

section
variable {E : Env} {n N : Nat} {ow lv : List Nat} {c : ACode} {f : Nat → AV} {σ : Store} {Q : Kn}
theorem loop_x {ι : Type} (hm : E.P.follows .mixedOrders = true) (hd : drawsT c = drawsU c) (nx : ι → ι) (x0 : ι) (ov : ι → List (Nat × AV)) (S : ι → Store) (P : ι → Prop) (μ : ι → Nat)
    (hP : P x0) (hS : ∀ x, P x → n ≤ (S x).next ∧ StoreBel (S x) ∧ BelL (S x).next (hdL lv (ov x) f)) (hσ : Below (S x0) σ) (hf : KnowsL N f (hdL lv (ov x0) f))
    (round : ∀ x, P x → wpA E n N ow c (tf (tL (hdL lv (ov x) f))) (S x) (roundK N (hdL lv (ov (nx x)) f) (S (nx x)) (P (nx x) ∧ μ (nx x) < μ x) Q)) : loopW E n N ow lv c f σ Q := by
  have kw : ∀ x f' σ', P x → Below (S x) σ' → KnowsL N f' (hdL lv (ov x) f) → KnowsW n N f' σ' (hdL lv (ov x) f) (S x) := fun x f' σ' hx h1 h2 => by
    obtain ⟨a1, a2, a3⟩ := hS x hx
    refine ⟨h1.forget a1 a2, fun p hp => ⟨(h2.knows p hp).1, (h2.knows p hp).2 ▸ sr_kz _ _ _, .inr (a3.mem p hp)⟩⟩
  refine AW.loopW (fun x => hdL lv (ov x) f) S P μ x0 hP (kw x0 f σ hP hσ hf) fun x hx => ?_
  rw [fr_tL]
  refine AW.mono (wpA_ok hm _ _ _ _ hd (round x hx)) ?_
  intro e f' σ' h
  cases e <;> first | exact h | skip
  obtain ⟨h1, h2, h3, h4⟩ := h
  exact ⟨nx x, h3, kw _ f' σ' h3 h1 h2, h4⟩
/-- A loop that counts and leaves the store as it was ahead of it. -/
theorem loop_n (hm : E.P.follows .mixedOrders = true) (hd : drawsT c = drawsU c) (m : Nat) (ov : Nat → List (Nat × AV)) (P : Nat → Prop) (hn : n ≤ σ.next) (hb : StoreBel σ)
    (hP : P 0) (hB : ∀ x, P x → BelL σ.next (hdL lv (ov x) f)) (hf : KnowsL N f (hdL lv (ov 0) f))
    (round : ∀ x, P x → wpA E n N ow c (tf (tL (hdL lv (ov x) f))) σ (roundK N (hdL lv (ov (x + 1)) f) σ (P (x + 1) ∧ m - (x + 1) < m - x) Q)) : loopW E n N ow lv c f σ Q :=
  loop_x hm hd (· + 1) 0 ov (fun _ => σ) P (fun x => m - x) hP (fun x hx => ⟨hn, hb, hB x hx⟩) (Below.refl σ) hf round
end
end Go.AW
end

section
set_option linter.unusedVariables false
set_option linter.unusedSimpArgs false
set_option linter.unnecessarySimpa false
namespace Go.AW
open Go

@[simp] theorem isNil_nilI : isNil (.const .nilIface) = false := rfl
@[simp] theorem isNilI_nilI : isNilI (.const .nilIface) = true := rfl
@[simp] theorem isNilI_int (k : IntKind) (b : Int) : isNilI (.const (.int k b)) = false := rfl
@[simp] theorem isNil_tmp (t : Nat) : isNil (.tmp t) = false := rfl
@[simp] theorem isNil_global (g : Nat) : isNil (.global g) = false := rfl
@[simp] theorem isNil_func (k : Nat) : isNil (.func k) = false := rfl
@[simp] theorem isNil_nil : isNil (.const (.slice none 0 0)) = true := rfl
@[simp] theorem isNil_bool (b : Bool) : isNil (.const (.bool b)) = false := rfl
@[simp] theorem isNil_int (k : IntKind) (b : Int) : isNil (.const (.int k b)) = false := rfl
@[simp] theorem isNil_string (s : ByteArray) : isNil (.const (.string s)) = false := rfl
@[simp] theorem isNil_pointer (a : Option Addr) : isNil (.const (.pointer a)) = false := rfl
@[simp] theorem isNil_map (a : Option Nat) : isNil (.const (.map a)) = false := rfl
@[simp] theorem isNil_agg (a : Array Value) : isNil (.const (.agg a)) = false := rfl
attribute [simp] AV.rd argV ownN
section
variable {E : Env} {σ : Store} {K : AV → Store → Prop} (g : Operand → AV)
@[simp ↓] theorem opX_range (t : TypeId) (x : Operand) : opX E (.range t x) ((Op.range t x).operands.toList.map g) σ K = aRange E t (g x) σ K := (rfl)
@[simp ↓] theorem opX_next (x : Operand) (b : Bool) : opX E (.next x b) ((Op.next x b).operands.toList.map g) σ K = aNext (g x) b σ K := (rfl)
@[simp ↓] theorem opX_lookup (t : TypeId) (x k : Operand) (b : Bool) : opX E (.lookup t x k b) ((Op.lookup t x k b).operands.toList.map g) σ K = aLook E t (g x) (g k) b σ K := (rfl)
@[simp ↓] theorem opX_mapUpdate (t : TypeId) (m k x : Operand) : opX E (.mapUpdate t m k x) ((Op.mapUpdate t m k x).operands.toList.map g) σ K = aMapPut E t (g m) (g k) (g x) σ K := (rfl)
@[simp ↓] theorem opX_insert (t : TypeId) (m k x : Operand) : opX E (.insert t m k x) ((Op.insert t m k x).operands.toList.map g) σ K = aMapPut E t (g m) (g k) (g x) σ K := (rfl)
@[simp ↓] theorem opX_makeMap (t : TypeId) : opX E (.makeMap t none) ((Op.makeMap t none).operands.toList.map g) σ K = K (.mp σ.next) (σ.alloc (.map [] [] 0)) := (rfl)
@[simp ↓] theorem opX_mapEntry (t : TypeId) (m k : Operand) : opX E (.mapEntry t m k) ((Op.mapEntry t m k).operands.toList.map g) σ K = aMapEntry E t (g m) (g k) σ K := (rfl)
@[simp ↓] theorem opX_entryStore (t : TypeId) (m s x : Operand) : opX E (.entryStore t m s x) ((Op.entryStore t m s x).operands.toList.map g) σ K = aEntryStore (g m) (g s) (g x) σ K := (rfl)
@[simp ↓] theorem opX_panic (x : Operand) : opX E (.panic x) ((Op.panic x).operands.toList.map g) σ K = (match g x with
    | .ifc t v => E.pan (.ifc t v) σ
    | _ => False) := by
  have e : (Op.panic x).operands.toList = [x] := rfl
  rw [e]
  simp only [List.map_cons, List.map_nil]
  cases g x <;> rfl
@[simp ↓] theorem opX_typeAssert (x : Operand) (xt t : TypeId) (b : Bool) : opX E (.typeAssert x xt t b) ((Op.typeAssert x xt t b).operands.toList.map g) σ K = aAssert E (g x) t b (at1 K σ) := (rfl)
end
section
variable {E : Env} (own : Nat) (s d : TypeId) (σ : Store) (K : AV → Store → Prop)
@[simp] theorem aConv2_c (v : Value) : aConv2 E own s d (.c v) σ K = aConv E own s d (.c v) σ K := (rfl)
@[simp] theorem aConv2_nl : aConv2 E own s d .nl σ K = aConv E own s d .nl σ K := (rfl)
@[simp] theorem aConv2_ps (es : List AV) : aConv2 E own s d (.ps es) σ K = aConv E own s d (.ps es) σ K := (rfl)
@[simp] theorem aConv2_fs (l : List UInt8) : aConv2 E own s d (.fs l) σ K = aConv E own s d (.fs l) σ K := (rfl)
@[simp] theorem aConv2_rs (i g o n : Nat) : aConv2 E own s d (.rs i g o n) σ K = aConv E own s d (.rs i g o n) σ K := (rfl)
@[simp] theorem aConv2_rc (i g o n c : Nat) : aConv2 E own s d (.rc i g o n c) σ K = aConv E own s d (.rc i g o n c) σ K := (rfl)
@[simp] theorem aConv2_lg (i : Nat) (es : List AV) : aConv2 E own s d (.lg i es) σ K = if own = 2 then s = d ∧ (match tk E.P d with
      | .slc e => tk E.P e = .int .u8 ∧ tsz E.P e = 1 ∧ es ≠ [] ∧ σ.get i = some (.log e es.length) ∧ K (.lg i es) σ
      | _ => False) else aConv E own s d (.ps es) σ K := (rfl)
end
attribute [simp] TK.isArr aSliceA chunks
@[simp] theorem drop_next (σ : Store) (i : Nat) : (σ.drop i).next = σ.next := rfl
@[simp] theorem drop_get (σ : Store) (i j : Nat) : (σ.drop i).get j = if j = i then none else σ.get j := rfl
@[simp] theorem Below_drop {s σ : Store} {k : Nat} (h : s.next ≤ k) : Below s (σ.drop k) = Below s σ := by
  simp only [Below, drop_next, drop_get, eq_iff_iff]
  refine and_congr_right fun _ => forall_congr' fun i => imp_congr_right fun hi => ?_
  rw [if_neg (by omega)]
attribute [simp] aRange aNext aLook aMapPut aMapEntry aEntryStore aMapDel aAssert TK.isMap keyOk

section
variable {E : Env}
@[simp] theorem aAppend2_nl (own : Nat) (t u : TypeId) (x : AV) (σ : Store) (K : AV → Store → Prop) : aAppend2 E own t u .nl x σ K = if own = 1 then aAppend E t u .nl x σ K else if own = 3 then aAppendF E t u x σ K else aAppendL E t u .nl x σ K := (rfl)
attribute [simp] aAppendF
@[simp] theorem aAppend2_lg (own : Nat) (t u : TypeId) (i : Nat) (es : List AV) (x : AV) (σ : Store) (K : AV → Store → Prop) : aAppend2 E own t u (.lg i es) x σ K = aAppendL E t u (.lg i es) x σ K := (rfl)
@[simp] theorem aAppendL_eq (t u : TypeId) (s x : AV) (σ : Store) (K : AV → Store → Prop) : aAppendL E t u s x σ K = ((tk E.P u = .str ∨ ∃ e, tk E.P u = .slc e) ∧ (match tk E.P t with
    | .slc e => tsz E.P e ≠ 0 ∧ (azero E.P e).ok = true ∧ tsz E.P e = (azero E.P e).cells.length ∧ (match aElems σ x with
      | some news => (∀ a ∈ news, a.cells.length = tsz E.P e) ∧ (match s with
        | .nl => news.length * tby E.P e ≤ 140737488355328 ∧ news.length ≤ maxLen ∧ (if news.isEmpty = true then K .nl σ else K (.lg σ.next news) (σ.alloc (.log e news.length)))
        | .lg i es => (match σ.get i with
          | some (.log T n) => T = e ∧ n = es.length ∧ (es.length + news.length) * tby E.P e ≤ 140737488355328 ∧ es.length + news.length ≤ maxLen ∧
              K (.lg i (es ++ news)) (σ.set i (.log e (es.length + news.length)))
          | _ => False)
        | _ => False)
      | none => False)
    | _ => False)) := by
  apply propext
  unfold aAppendL
  refine and_congr_right fun _ => ?_
  generalize tk E.P t = T
  cases T <;> try exact Iff.rfl
  refine and_congr_right fun _ => and_congr_right fun _ => and_congr_right fun _ => ?_
  generalize aElems σ x = ns
  cases ns <;> try exact Iff.rfl
  rename_i news
  refine and_congr_right fun _ => ?_
  cases s <;> try exact Iff.rfl
  refine and_congr_right fun _ => and_congr_right fun _ => ?_
  cases news <;> simp
@[simp] theorem set_alloc_lt {σ : Store} {i : Nat} (o o' : AObj) (h : i < σ.next) : (σ.alloc o).set i o' = (σ.set i o').alloc o := by
  unfold Store.set Store.alloc
  simp only [Store.mk.injEq, and_true]
  funext j
  by_cases h1 : j = σ.next
  · subst h1; simp [show ¬ σ.next = i by omega]
  · simp [h1]
end
@[simp] theorem set_comm {σ : Store} {i j : Nat} (o o' : AObj) (h : j < i) : (σ.set i o).set j o' = (σ.set j o').set i o := by
  unfold Store.set
  simp only [Store.mk.injEq, and_true]
  funext k
  by_cases h1 : k = j
  · subst h1; simp [show ¬ k = i by omega]
  · simp [h1]
@[simp] theorem alloc_set' {σ : Store} {k : Nat} (o o' : AObj) (h : k = σ.next) : (σ.alloc o).set k o' = σ.alloc o' := by subst h; exact alloc_set σ o o'
@[simp] theorem Below_alloc {s σ : Store} (o : AObj) (h : s.next ≤ σ.next) : Below s (σ.alloc o) = Below s σ := by
  simp only [Below, alloc_next, alloc_get, eq_iff_iff]
  constructor
  · rintro ⟨h1, h2⟩
    refine ⟨h, fun i hi => ?_⟩
    have := h2 i hi
    rwa [if_neg (by omega)] at this
  · rintro ⟨h1, h2⟩
    refine ⟨by omega, fun i hi => ?_⟩
    rw [if_neg (by omega)]; exact h2 i hi
@[simp] theorem Below_set {s σ : Store} {k : Nat} (o : AObj) (h : s.next ≤ k) : Below s (σ.set k o) = Below s σ := by
  simp only [Below, set_next, set_get, eq_iff_iff]
  refine and_congr_right fun _ => forall_congr' fun i => imp_congr_right fun hi => ?_
  rw [if_neg (by omega)]
@[simp] theorem storeBel_log {σ : Store} (T : TypeId) (n : Nat) (h : StoreBel σ) : StoreBel (σ.alloc (.log T n)) = True := eq_true (h.alloc_log T n)
@[simp] theorem storeBel_arr {σ : Store} (T : TypeId) (g : Nat) (es : List AV) (h : StoreBel σ) (hes : ∀ e ∈ es, ∀ x ∈ e.cells, Bel (σ.next + 1) x) : StoreBel (σ.alloc (.arr T g es)) = True := eq_true (h.alloc_arr hes)
theorem ObjBel.mono {m m' : Nat} {o : AObj} (h : ObjBel m o) (hm : m ≤ m') : ObjBel m' o := by
  cases o with
  | arr T g es => exact fun e he x hx => (h e he x hx).mono hm
  | map ents born clock => exact fun e he => (h e he).mono hm
  | mi i a b c => exact Nat.lt_of_lt_of_le h hm
  | log T n => trivial
  | lp b L vs => exact fun a ha => (h a ha).mono hm
  | it o => trivial
theorem StoreBel.alloc_obj {σ : Store} (h : StoreBel σ) {o : AObj} (ho : ObjBel (σ.next + 1) o) : StoreBel (σ.alloc o) := by
  intro i o' ho'
  simp only [alloc_get] at ho'
  split at ho'
  · rename_i e; subst e; cases ho'; exact ⟨by simp, ho⟩
  · obtain ⟨h1, h2⟩ := h i o' ho'
    exact ⟨by simp; omega, h2.mono (by simp)⟩
theorem StoreBel.set_obj {σ : Store} (h : StoreBel σ) {i : Nat} {o : AObj} (hi : i < σ.next) (ho : ObjBel σ.next o) : StoreBel (σ.set i o) := by
  intro j o' ho'
  simp only [set_get] at ho'
  split at ho'
  · rename_i e; subst e; cases ho'; exact ⟨by simpa using hi, ho⟩
  · exact h j o' ho'
@[simp] theorem storeBel_it {σ : Store} (o : Obj) (h : StoreBel σ) : StoreBel (σ.alloc (.it o)) = True := eq_true (h.alloc_obj trivial)
@[simp] theorem storeBel_mi {σ : Store} (i a c : Nat) (b : List Nat) (h : StoreBel σ) (hi : i < σ.next + 1) : StoreBel (σ.alloc (.mi i a b c)) = True := eq_true (h.alloc_obj hi)
@[simp] theorem storeBel_map {σ : Store} (ents : List (Value × AV)) (b : List Nat) (c : Nat) (h : StoreBel σ) (hi : ∀ en ∈ ents, Bel (σ.next + 1) en.2) : StoreBel (σ.alloc (.map ents b c)) = True := eq_true (h.alloc_obj hi)
@[simp] theorem forall_take_map {α β : Type} {f : α → β} {l : List α} {i : Nat} {p : β → Prop} : (∀ a, a ∈ List.take i (List.map f l) → p a) ↔ ∀ x, x ∈ List.take i l → p (f x) := by
  rw [← List.map_take]
  constructor
  · intro h x hx
    exact h _ (List.mem_map_of_mem hx)
  · intro h a ha
    obtain ⟨x, hx, rfl⟩ := List.mem_map.1 ha
    exact h x hx
@[simp] theorem drop_mid {α β : Type} (f : α → β) (l : List α) (x : β) (r : List β) : List.drop (l.length + 1) (List.map f l ++ x :: r) = r := by
  rw [show List.map f l ++ x :: r = (List.map f l ++ [x]) ++ r by simp, List.drop_left' (by simp)]
@[simp] theorem take_mid {α β γ : Type} (f : α → β) (g : γ → β) (l : List α) (m : List γ) (r : List β) : List.take (l.length + m.length) (List.map f l ++ (List.map g m ++ r)) = List.map f l ++ List.map g m := by
  rw [← List.append_assoc, List.take_left' (by simp)]
@[simp] theorem take_mid2 {α β γ : Type} (f : α → β) (g : γ → β) (l : List α) (m : List γ) : List.take (l.length + m.length) (List.map f l ++ List.map g m) = List.map f l ++ List.map g m := List.take_of_length_le (by simp)
theorem take_snoc {α β : Type} {f : α → β} {l : List α} {i : Nat} {a : α} (h : l[i]? = some a) : List.take i (List.map f l) ++ [f a] = List.take (i + 1) (List.map f l) := by
  rw [List.take_add_one, List.getElem?_map, h]; rfl
theorem take_snoc' {α : Type} {l : List α} {i : Nat} {a : α} (h : l[i]? = some a) : List.take i l ++ [a] = List.take (i + 1) l := by
  rw [List.take_add_one, h]; rfl
@[simp] theorem add_lit1 (a : Nat) : a + 1 + 1 = a + 2 := rfl
@[simp] theorem add_lit2 (a : Nat) : a + 2 + 1 = a + 3 := rfl
@[simp] theorem add_lit3 (a : Nat) : a + 3 + 1 = a + 4 := rfl
@[simp] theorem add_lit4 (a : Nat) : a + 4 + 1 = a + 5 := rfl
@[simp] theorem add_lit5 (a : Nat) : a + 5 + 1 = a + 6 := rfl
@[simp] theorem add_lit6 (a : Nat) : a + 6 + 1 = a + 7 := rfl
@[simp] theorem add_lit7 (a : Nat) : a + 7 + 1 = a + 8 := rfl
@[simp] theorem add_lit8 (a : Nat) : a + 8 + 1 = a + 9 := rfl
@[simp] theorem add_lit9 (a : Nat) : a + 9 + 1 = a + 10 := rfl
@[simp] theorem add_lit10 (a : Nat) : a + 10 + 1 = a + 11 := rfl
@[simp] theorem add_lit11 (a : Nat) : a + 11 + 1 = a + 12 := rfl
@[simp] theorem add_lit12 (a : Nat) : a + 12 + 1 = a + 13 := rfl
@[simp] theorem add_lit13 (a : Nat) : a + 13 + 1 = a + 14 := rfl
@[simp] theorem add_lit14 (a : Nat) : a + 14 + 1 = a + 15 := rfl
@[simp] theorem add_lit15 (a : Nat) : a + 15 + 1 = a + 16 := rfl
@[simp] theorem add_lit16 (a : Nat) : a + 16 + 1 = a + 17 := rfl
@[simp] theorem add_lit17 (a : Nat) : a + 17 + 1 = a + 18 := rfl
@[simp] theorem add_lit18 (a : Nat) : a + 18 + 1 = a + 19 := rfl
@[simp] theorem add_lit19 (a : Nat) : a + 19 + 1 = a + 20 := rfl
@[simp] theorem add_lit20 (a : Nat) : a + 20 + 1 = a + 21 := rfl
@[simp] theorem add_lit21 (a : Nat) : a + 21 + 1 = a + 22 := rfl
@[simp] theorem add_lit22 (a : Nat) : a + 22 + 1 = a + 23 := rfl
@[simp] theorem add_lit23 (a : Nat) : a + 23 + 1 = a + 24 := rfl
theorem wrap_succ {i n : Nat} (h : i < n) (hn : n ≤ 9223372036854775807) : IntKind.i64.wrap ((i : Int) + 1) = (i : Int) + 1 := wrap64_id (by omega) (by omega)
@[simp high] theorem frzL_map_byteV (l : List UInt8) : frzL (l.map byteV) = l.map byteV := by rw [frzL_map]; exact List.map_congr_left fun x _ => frz_c _
@[simp high] theorem frzL_map_str (l : List (List UInt8)) : frzL (l.map str) = l.map str := by rw [frzL_map]; exact List.map_congr_left fun x _ => frz_c _
@[simp] theorem frzL_take (n : Nat) (l : List AV) : frzL (l.take n) = (frzL l).take n := by simp [frzL_eq]
@[simp] theorem frzL_drop (n : Nat) (l : List AV) : frzL (l.drop n) = (frzL l).drop n := by simp [frzL_eq]
@[simp] theorem frzL_length (l : List AV) : (frzL l).length = l.length := by simp [frzL_eq]
@[simp] theorem maxLen_eq : maxLen = 9223372036854775807 := (rfl)

/-! ### Operations that come up only if .. -/
/-- What is known of the guard's variable decides; where it is not known, both ways are gone, each with what it says. -/
def guardW (v : AV) (want : Bool) (T F : AV → Prop) : Prop := match v with
  | .c (.bool b) => (b = true → if want = true then T (.c (.bool true)) else F (.c (.bool true))) ∧ (b = false → if want = true then F (.c (.bool false)) else T (.c (.bool false)))
  | .tup l => F (.tup l)
  | _ => False
@[congr] theorem guardW_congr {v v' : AV} {want : Bool} {T F : AV → Prop} (h : v = v') : guardW v want T F = guardW v' want T F := by rw [h]
@[simp ↓ high] theorem guardW_true (want : Bool) (T F : AV → Prop) : guardW (.c (.bool true)) want T F = if want = true then T (.c (.bool true)) else F (.c (.bool true)) := by simp [guardW]
@[simp ↓ high] theorem guardW_false (want : Bool) (T F : AV → Prop) : guardW (.c (.bool false)) want T F = if want = true then F (.c (.bool false)) else T (.c (.bool false)) := by simp [guardW]
@[simp ↓] theorem guardW_bool (b want : Bool) (T F : AV → Prop) : guardW (.c (.bool b)) want T F = ((b = true → if want = true then T (.c (.bool true)) else F (.c (.bool true))) ∧ (b = false → if want = true then F (.c (.bool false)) else T (.c (.bool false)))) := (rfl)
@[simp ↓] theorem guardW_tup (l : List AV) (want : Bool) (T F : AV → Prop) : guardW (.tup l) want T F = F (.tup l) := (rfl)
theorem upd_self (f : Nat → AV) (d : Nat) : upd f d (f d) = f := by
  funext t
  simp only [upd_apply]
  split
  · rename_i h; rw [h]
  · rfl
def dstAt (ops : Array Oper) (j : Nat) : Option Tmp := (ops[j]?).bind (·.dst)

section
variable {E : Env} {ow : List Nat} {N : Nat} {ops : Array Oper}
/-- The general form: T, F say what follows where the operation comes up, does not come up. -/
theorem guard_split {ops : Array Oper} {o : Oper} {f : Nat → AV} {T F : (Nat → AV) → Prop} {j : Nat} {want : Bool} {d : Tmp} (hg : o.guard = some (j, want)) (hd : dstAt ops j = some d) :
    (match aGuard ops f o with
      | some g => (g = true → T f) ∧ (g = false → F f)
      | none => False) = guardW (f d) want (fun v => T (upd f d v)) (fun v => F (upd f d v)) := by
  unfold aGuard
  rw [hg]
  simp only
  unfold dstAt at hd
  rw [hd]
  simp only
  have hs := upd_self f d
  generalize hv : f d = v at *
  cases v <;> simp only [guardW] <;> try rfl
  case c x =>
    cases x <;> simp only
    rename_i b
    cases b <;> cases want <;> simp [hs]
  case tup l => simp [hs]

def gT (E : Env) (ow : List Nat) (N : Nat) (ops : Array Oper) (o : Oper) (l : List Oper) (K : (Nat → AV) → Store → Prop) (d : Tmp) (f : Nat → AV) (σ : Store) (v : AV) : Prop := opK E ow o (upd f d v) σ (kont E ow N ops l K o.dst (upd f d v))
def gF (E : Env) (ow : List Nat) (N : Nat) (ops : Array Oper) (o : Oper) (l : List Oper) (K : (Nat → AV) → Store → Prop) (d : Tmp) (f : Nat → AV) (σ : Store) (v : AV) : Prop := kont E ow N ops l K o.dst (upd f d v) (.tup []) σ
@[simp ↓] theorem gT_eq (o : Oper) (l : List Oper) (K : (Nat → AV) → Store → Prop) (d : Tmp) (f : Nat → AV) (σ : Store) (v : AV) : gT E ow N ops o l K d f σ v = opK E ow o (upd f d v) σ (kont E ow N ops l K o.dst (upd f d v)) := (rfl)
@[simp ↓] theorem gF_eq (o : Oper) (l : List Oper) (K : (Nat → AV) → Store → Prop) (d : Tmp) (f : Nat → AV) (σ : Store) (v : AV) : gF E ow N ops o l K d f σ v = kont E ow N ops l K o.dst (upd f d v) (.tup []) σ := (rfl)
@[simp ↓] theorem aops_none (d : Option Tmp) (op : Op) (ty : TypeId) (pos : String) (after : Array Edge) (l : List Oper) (f : Nat → AV) (σ : Store) (K : (Nat → AV) → Store → Prop) :
    aops E ow N ops (⟨d, op, ty, pos, after, none⟩ :: l) f σ K = opK E ow ⟨d, op, ty, pos, after, none⟩ f σ (kont E ow N ops l K d f) := by
  rw [aops_cons, if_pos (show aGuard ops f ⟨d, op, ty, pos, after, none⟩ = some true from rfl)]
@[simp ↓] theorem aops_some (d : Option Tmp) (op : Op) (ty : TypeId) (pos : String) (after : Array Edge) (j : Nat) (want : Bool) (l : List Oper) (f : Nat → AV) (σ : Store) (K : (Nat → AV) → Store → Prop) :
    aops E ow N ops (⟨d, op, ty, pos, after, some (j, want)⟩ :: l) f σ K = (match dstAt ops j with
      | some e => guardW (f e) want (gT E ow N ops ⟨d, op, ty, pos, after, some (j, want)⟩ l K e f σ) (gF E ow N ops ⟨d, op, ty, pos, after, some (j, want)⟩ l K e f σ)
      | none => False) := by
  split
  · rename_i e he
    exact (guard_split (T := fun f => opK E ow ⟨d, op, ty, pos, after, some (j, want)⟩ f σ (kont E ow N ops l K d f)) (F := fun f => kont E ow N ops l K d f (.tup []) σ) rfl he)
  · rename_i he
    unfold dstAt at he
    rw [aops]
    unfold aGuard
    simp only [he]

variable {Q : (Nat → AV) → Store → Prop}
def eT (E : Env) (ow : List Nat) (N : Nat) (ops : Array Oper) (Q : (Nat → AV) → Store → Prop) (a : An) (an : List An) (o : Oper) (l : List Oper) (k cur : Nat) (past : List (Nat × Store)) (pend : List Pend) (d : Tmp) (f : Nat → AV) (σ : Store) (v : AV) : Prop := match a with
  | .q ps => opR E ow o (upd f d v) σ (kontQ E ow N ops Q ps an o l k cur past pend (upd f d v) σ)
  | .e => opD E ow o (upd f d v) σ (kontE E ow N ops Q an o l k cur past pend (upd f d v) σ)
def eF (E : Env) (ow : List Nat) (N : Nat) (ops : Array Oper) (Q : (Nat → AV) → Store → Prop) (a : An) (an : List An) (o : Oper) (l : List Oper) (k cur : Nat) (past : List (Nat × Store)) (pend : List Pend) (d : Tmp) (f : Nat → AV) (σ : Store) (v : AV) : Prop := match a with
  | .q ps => putE E ow N ops Q an l (k + 1) cur past pend (upd f d v) σ o.dst (.tup [])
  | .e => kontE E ow N ops Q an o l k cur past pend (upd f d v) σ (.tup []) σ
@[simp ↓] theorem eT_q (ps : List Nat) (an : List An) (o : Oper) (l : List Oper) (k cur : Nat) (past : List (Nat × Store)) (pend : List Pend) (d : Tmp) (f : Nat → AV) (σ : Store) (v : AV) : eT E ow N ops Q (.q ps) an o l k cur past pend d f σ v = opR E ow o (upd f d v) σ (kontQ E ow N ops Q ps an o l k cur past pend (upd f d v) σ) := (rfl)
@[simp ↓] theorem eT_e (an : List An) (o : Oper) (l : List Oper) (k cur : Nat) (past : List (Nat × Store)) (pend : List Pend) (d : Tmp) (f : Nat → AV) (σ : Store) (v : AV) : eT E ow N ops Q .e an o l k cur past pend d f σ v = opD E ow o (upd f d v) σ (kontE E ow N ops Q an o l k cur past pend (upd f d v) σ) := (rfl)
@[simp ↓] theorem eF_q (ps : List Nat) (an : List An) (o : Oper) (l : List Oper) (k cur : Nat) (past : List (Nat × Store)) (pend : List Pend) (d : Tmp) (f : Nat → AV) (σ : Store) (v : AV) : eF E ow N ops Q (.q ps) an o l k cur past pend d f σ v = putE E ow N ops Q an l (k + 1) cur past pend (upd f d v) σ o.dst (.tup []) := (rfl)
@[simp ↓] theorem eF_e (an : List An) (o : Oper) (l : List Oper) (k cur : Nat) (past : List (Nat × Store)) (pend : List Pend) (d : Tmp) (f : Nat → AV) (σ : Store) (v : AV) : eF E ow N ops Q .e an o l k cur past pend d f σ v = kontE E ow N ops Q an o l k cur past pend (upd f d v) σ (.tup []) σ := (rfl)
@[simp ↓] theorem aopsE_q_none (ps : List Nat) (an : List An) (d : Option Tmp) (op : Op) (ty : TypeId) (pos : String) (after : Array Edge) (l : List Oper) (k cur : Nat) (past : List (Nat × Store)) (pend : List Pend) (f : Nat → AV) (σ : Store) :
    aopsE E ow N ops Q (.q ps :: an) (⟨d, op, ty, pos, after, none⟩ :: l) k cur past pend f σ = opR E ow ⟨d, op, ty, pos, after, none⟩ f σ (kontQ E ow N ops Q ps an ⟨d, op, ty, pos, after, none⟩ l k cur past pend f σ) := by
  rw [aopsE_q, if_pos (show aGuard ops f ⟨d, op, ty, pos, after, none⟩ = some true from rfl)]
@[simp ↓] theorem aopsE_e_none (an : List An) (d : Option Tmp) (op : Op) (ty : TypeId) (pos : String) (after : Array Edge) (l : List Oper) (k cur : Nat) (past : List (Nat × Store)) (pend : List Pend) (f : Nat → AV) (σ : Store) :
    aopsE E ow N ops Q (.e :: an) (⟨d, op, ty, pos, after, none⟩ :: l) k cur past pend f σ = opD E ow ⟨d, op, ty, pos, after, none⟩ f σ (kontE E ow N ops Q an ⟨d, op, ty, pos, after, none⟩ l k cur past pend f σ) := by
  rw [aopsE_e, if_pos (show aGuard ops f ⟨d, op, ty, pos, after, none⟩ = some true from rfl)]
@[simp ↓] theorem aopsE_some (a : An) (an : List An) (d : Option Tmp) (op : Op) (ty : TypeId) (pos : String) (after : Array Edge) (j : Nat) (want : Bool) (l : List Oper) (k cur : Nat) (past : List (Nat × Store)) (pend : List Pend) (f : Nat → AV) (σ : Store) :
    aopsE E ow N ops Q (a :: an) (⟨d, op, ty, pos, after, some (j, want)⟩ :: l) k cur past pend f σ = (match dstAt ops j with
      | some e => guardW (f e) want (eT E ow N ops Q a an ⟨d, op, ty, pos, after, some (j, want)⟩ l k cur past pend e f σ) (eF E ow N ops Q a an ⟨d, op, ty, pos, after, some (j, want)⟩ l k cur past pend e f σ)
      | none => False) := by
  cases a with
  | q ps =>
    split
    · rename_i e he
      exact guard_split (o := ⟨d, op, ty, pos, after, some (j, want)⟩) (f := f) (T := fun f => opR E ow ⟨d, op, ty, pos, after, some (j, want)⟩ f σ (kontQ E ow N ops Q ps an ⟨d, op, ty, pos, after, some (j, want)⟩ l k cur past pend f σ)) (F := fun f => putE E ow N ops Q an l (k + 1) cur past pend f σ d (.tup [])) rfl he
    · rename_i he
      unfold dstAt at he
      rw [aopsE]
      unfold aGuard
      simp only [he]
  | e =>
    split
    · rename_i e he
      exact guard_split (o := ⟨d, op, ty, pos, after, some (j, want)⟩) (f := f) (T := fun f => opD E ow ⟨d, op, ty, pos, after, some (j, want)⟩ f σ (kontE E ow N ops Q an ⟨d, op, ty, pos, after, some (j, want)⟩ l k cur past pend f σ)) (F := fun f => kontE E ow N ops Q an ⟨d, op, ty, pos, after, some (j, want)⟩ l k cur past pend f σ (.tup []) σ) rfl he
    · rename_i he
      unfold dstAt at he
      rw [aopsE]
      unfold aGuard
      simp only [he]
attribute [simp] dstAt
end

@[congr] theorem ACalls_congr {E : Env} {k : FuncId} {args args' : List AV} {σ : Store} {K : AV → Store → Prop} (h : args = args') : ACalls E k args σ K = ACalls E k args' σ K := by rw [h]
@[congr] theorem callD_congr {E : Env} {k : FuncId} {args args' : List AV} {σ : Store} {K : AV → Store → Prop} (h : args = args') : callD E k args σ K = callD E k args' σ K := by rw [h]
@[congr] theorem callQ_congr {E : Env} {k : FuncId} {args args' : List AV} {σ : Store} {K : AV → Prop} (h : args = args') : callQ E k args σ K = callQ E k args' σ K := by rw [h]
@[simp ↓] theorem opRc_call {E : Env} {ow : List Nat} (d : Option Tmp) (k : FuncId) (args : Array Operand) (argTypes : Array TypeId) (ty : TypeId) (pos : String) (after : Array Edge) (guard : Option (Nat × Bool)) (f : Nat → AV) (σ : Store) (K : AV → Prop) (hk : callable E.P k = true) :
    opRc E ow ⟨d, .call { callee := .value (.func k), args := args, argTypes := argTypes }, ty, pos, after, guard⟩ f σ K = callQ E k (args.toList.map fun x => argV ow k (aeval E.G f x)) σ K := by
  unfold opRc callQ
  simp only [opK, aCall, aeval, hk, if_true, List.nil_append, List.append_nil]
/-- A call in a region that draws its order. -/
theorem Pur.d {E : Env} {k : FuncId} {args : List AV} {r : AV} (h : Pur E k args r) {σ : Store} {K : AV → Store → Prop} (hk : K r σ) : callD E k args σ K := callD_of (h σ) hk
theorem Pur.q {E : Env} {k : FuncId} {args : List AV} {r : AV} (h : Pur E k args r) {σ : Store} {K : AV → Prop} (hk : K r) : callQ E k args σ K := callQ_of (h σ) hk
end Go.AW
end

section
set_option linter.unusedVariables false
set_option linter.unusedSimpArgs false
set_option linter.unnecessarySimpa false
namespace Go.AW
open Go

/-- Whatever the capacity is. -/
theorem ACalls.caps {E : Env} {f : FuncId} {o g off len : Nat} {args : List AV} {σ : Store} {Q : AV → Store → Prop} (h : ∀ c, len ≤ c → ACalls E f (.rc o g off len c :: args) σ Q) : ACalls E f (.rs o g off len :: args) σ Q := by
  intro Γ w vs hr hv
  obtain ⟨hl, hv⟩ := hv
  cases hvs : vs.toList with
  | nil => rw [hvs] at hl; simp at hl
  | cons v vl =>
    have h0 := hv 0 _ v rfl (by rw [hvs]; rfl)
    cases h0 with
    | rs _ _ _ _ a cap hi hlc hat =>
      refine h cap hlc Γ w vs hr ⟨by simpa using hl, fun j x u hx hu => ?_⟩
      cases j with
      | zero =>
        simp at hx
        subst hx
        rw [hvs] at hu
        cases hu
        exact .rc o g off len cap a hi hlc hat
      | succ j => exact hv (j + 1) x u (by simpa using hx) hu

/-- What is known of a row's end is forgotten. -/
theorem R.trim {E : Env} {Γ : Ctx} {σ : Store} {w : World} (hr : R E Γ σ w) {i : Nat} {T : TypeId} {g : Nat} {es : List AV} (hi : σ.get i = some (.arr T g es)) (k : Nat) : R E Γ (σ.set i (.arr T g (es.take k))) w := by
  refine ⟨hr.next, fun j => ?_, fun j hj => ?_, hr.inj, fun j o l ho hl => ?_, hr.glob, hr.gbel, hr.base, fun j o l ho hl => ?_⟩
  · rw [hr.dom j, set_get]
    split
    · rename_i e; subst e; rw [hi]; rfl
    · rfl
  · rw [set_get]
    split
    · rename_i e; subst e
      have := hr.bnd j (by simpa using hj)
      rw [hi] at this; cases this
    · exact hr.bnd j (by simpa using hj)
  · rw [set_get] at ho
    split at ho
    · rename_i e; subst e
      cases ho
      have h0 := hr.objs _ _ l hi hl
      simp only [ObjRel] at h0 ⊢
      obtain ⟨a1, a2, a3, a4, a5, a6⟩ := h0
      refine ⟨a1, a2, fun e he => a3 e (List.mem_of_mem_take he), by rw [List.length_take]; omega, a5, ?_⟩
      cases hb : l.blk with
      | none => simp only [hb] at a6 ⊢; exact ⟨by rw [a6.1]; simp, a6.2⟩
      | some b =>
        simp only [hb] at a6 ⊢
        obtain ⟨xs, fr, q1, q2, q3, q4⟩ := a6
        refine ⟨xs, fr, q1, q2, q3, fun n e j x hk hj => ?_⟩
        rw [List.getElem?_take] at hk
        split at hk
        · exact q4 n e j x hk hj
        · cases hk
    · exact hr.objs j o l ho hl
  · rw [set_get] at ho
    split at ho
    · rename_i e; subst e
      cases ho
      exact (hr.lims _ _ l hi hl).trans rfl
    · exact hr.lims j o l ho hl
theorem ACalls.trim {E : Env} {f : FuncId} {args : List AV} {σ : Store} {Q Q' : AV → Store → Prop} (h : ACalls E f args σ Q) (hq : ∀ a s, Q a s → ∃ i T g es k, s.get i = some (.arr T g es) ∧ Q' a (s.set i (.arr T g (es.take k)))) : ACalls E f args σ Q' := by
  intro Γ w vs hr hv
  refine (h Γ w vs hr hv).mono ?_
  rintro e w' (⟨v, rfl, Γ', a, s, h1, h2, h3, h4⟩ | h)
  · obtain ⟨i, T, g, es, k, h5, h6⟩ := hq a s h4
    exact .inl ⟨v, rfl, Γ', a, _, h1, h2.trim h5 k, h3, h6⟩
  · exact .inr h

theorem run_overlaps_other {P : Program} (w : World) (tS tR e : TypeId) (ht : P.underlying tS = some (.slice e)) (size : Nat) (hz : ∀ w, (Go.sizeOf e).run P w = .ok size w)
    (a b : Addr) (la ca lb cb : Nat) (hne : a.block ≠ b.block) (tA tB : TypeId) (kA kB : Nat)
    (hsa : w.shape? a.block = some (tA, kA)) (hsb : w.shape? b.block = some (tB, kB)) (hkA : kA ≠ 0)
    (hfb : w.frozen? b = false) (hfe : w.frozen? { block := b.block, off := kB } = false) :
    (Extern.SlicesOverlaps.overlaps #[tS, tS] #[tR] #[.slice (some a) la ca, .slice (some b) lb cb]).run P w = .ok (.bool false) w := by
  have hnb : (a.block != b.block) = true := by simpa using hne
  have hnb' : (a.block == b.block) = false := by simpa using hne
  change Sem.run P (α := Value) (do
    let some t := (#[tS, tS] : Array TypeId)[0]? | Go.stuck "slices.overlaps: no parameter types"
    let .slice elem ← underlying t | Go.stuck "slices.overlaps: slice type expected"
    let size ← Go.sizeOf elem
    match (some a : Option Addr), (some b : Option Addr) with
    | some a, some b =>
      if la = 0 ∨ lb = 0 ∨ size = 0 then pure (Value.bool false)
      else if a.block != b.block && (← frozen a) && (← frozen b) then unsupported .addressObserved
      else do
        if a.block != b.block then do
          noView a; noView b
          if ← mayBeOne a b then return Value.bool ((← choose (.extern "sameAddr.stringBytes" 2)) == 1)
        pure (Value.bool (a.block == b.block && a.off < b.off + lb * size && b.off < a.off + la * size))
    | _, _ => pure (Value.bool false)) w = _
  by_cases h0 : la = 0 ∨ lb = 0 ∨ size = 0
  · simp [run_underlying ht, hz, h0]
  · cases kA with
    | zero => exact absurd rfl hkA
    | succ kA =>
      cases hfa : w.frozen? a <;> cases hfa2 : w.frozen? { block := a.block, off := kA + 1 } <;>
        simp [run_underlying ht, hz, h0, hnb, hnb', frozen, noView, viewAt, mayBeOne, stringish, shape, Sem.run, hsa, hsb, hfb, hfe, hfa, hfa2]
theorem run_overlaps_none {P : Program} (w : World) (tS tR e : TypeId) (ht : P.underlying tS = some (.slice e)) (size : Nat) (hz : ∀ w, (Go.sizeOf e).run P w = .ok size w) (a b : Option Addr) (la ca cb : Nat) :
    (Extern.SlicesOverlaps.overlaps #[tS, tS] #[tR] #[.slice a la ca, .slice b 0 cb]).run P w = .ok (.bool false) w := by
  change Sem.run P (α := Value) (do
    let some t := (#[tS, tS] : Array TypeId)[0]? | Go.stuck "slices.overlaps: no parameter types"
    let .slice elem ← underlying t | Go.stuck "slices.overlaps: slice type expected"
    let size ← Go.sizeOf elem
    match (a : Option Addr), (b : Option Addr) with
    | some a, some b =>
      if la = 0 ∨ 0 = 0 ∨ size = 0 then pure (Value.bool false)
      else if a.block != b.block && (← frozen a) && (← frozen b) then unsupported .addressObserved
      else do
        if a.block != b.block then do
          noView a; noView b
          if ← mayBeOne a b then return Value.bool ((← choose (.extern "sameAddr.stringBytes" 2)) == 1)
        pure (Value.bool (a.block == b.block && a.off < b.off + 0 * size && b.off < a.off + la * size))
    | _, _ => pure (Value.bool false)) w = _
  cases a <;> cases b <;> simp [run_underlying ht, hz]

/-- What is only read does not overlap with a row of the store. -/
theorem overlaps_no {E : Env} {k : FuncId} {fn : Func} {tS tR e T : TypeId} {x c : AV} {xs cs row : List AV} {i g off len cap : Nat} {σ : Store} (hf : E.P.funcs[k]? = some fn) (hname : (fn.name == "runtime.NumGoroutine") = false) (hb : fn.body.isNone = true)
    (hn : Extern.findNext fn = none) (he : Extern.find fn = some (Extern.SlicesOverlaps.overlaps #[tS, tS] #[tR])) (ht : tk E.P tS = .slc e) (hz : tsz E.P e ≠ 0) (hi : σ.get i = some (.arr T g row)) (hsz : tsz E.P T ≠ 1) (hx : x.cells = c :: cs) :
    AExt E k [.ps (x :: xs), .rc i g off len cap] σ fun a s => a = .c (.bool false) ∧ s = σ := by
  intro Γ w vs hr hv
  obtain ⟨hl, hv⟩ := hv
  obtain ⟨v0, v1, hvs⟩ : ∃ v0 v1, vs.toList = [v0, v1] := by
    match hm : vs.toList, hl with
    | [v0, v1], _ => exact ⟨v0, v1, rfl⟩
  rw [hvs] at hv
  have h0 := hv 0 _ v0 rfl rfl
  have h1 := hv 1 _ v1 rfl rfl
  have hvs' := toList_two hvs
  subst hvs'
  have hu := tk_slc ht
  have hzz := fun w => run_tsz hz w
  cases h0 with
  | ps _ a ca ba oa us hca haa hw hw1 hw2 =>
  cases h1 with
  | rc _ _ _ _ _ b hin hlc hat =>
  refine ⟨.bool false, w, ?_, Res.same hr (.c _ rfl) ⟨rfl, rfl⟩⟩
  rw [run_callFunc_extern hf hname hb hn he]
  obtain ⟨rfl, hlt⟩ := haa (by simp)
  by_cases hl0 : len = 0
  · subst hl0
    rw [run_overlaps_none w tS tR e hu (tsz E.P e) hzz]
    rfl
  · obtain ⟨l, hgl, ho, _⟩ := hr.loc hi
    have hlim := hr.lims _ _ _ hi hgl
    simp only [ObjRel] at ho
    obtain ⟨o1, o2, o3, o4, o5, o6⟩ := ho
    have hat' := (hat l hgl).2 o1
    unfold Loc.rsAt at hat'
    cases hblk : l.blk with
    | none => simp only [hblk] at hat'; omega
    | some bb =>
      simp only [hblk] at hat' o6
      obtain ⟨q1, q2, q3⟩ := hat'
      obtain ⟨ys, fr, r1, r2, r3, r4⟩ := o6
      have hbb : b = some ⟨bb, off * l.sz, none⟩ := by rcases q2 with q2 | q2; omega; exact q2
      subst hbb
      obtain ⟨hc0, hfx⟩ := hw 0 x 0 c rfl (by rw [hx]; rfl)
      have hne : ba ≠ bb := by
        intro e0
        subst e0
        obtain ⟨m, hm, _⟩ := hfx i l hgl hblk
        rw [hlim] at hm
        cases hm
      have hsha : ∃ t n, w.shape? ba = some (t, n) ∧ n ≠ 0 := by
        unfold World.cell? at hc0
        unfold World.shape?
        cases hh : w.heap[ba]? with
        | none => simp [hh] at hc0
        | some o =>
          cases o with
          | cells zs t f =>
            refine ⟨t, zs.size, rfl, fun e0 => ?_⟩
            simp only [hh] at hc0
            have := (Array.getElem?_eq_some_iff.1 (by simpa using hc0)).1
            omega
          | _ => simp [hh] at hc0
      obtain ⟨tA, kA, hsa, hkA⟩ := hsha
      have hshb : w.shape? bb = some (T, ys.size) := by unfold World.shape?; rw [r1]
      have hfr : ∀ n, w.frozen? ⟨bb, n, none⟩ = false := by
        intro n
        unfold World.frozen?
        simp only [r1]
        rcases r2 with r2 | ⟨_, r2⟩
        · obtain ⟨f1, f2⟩ := fr
          simp only at r2
          subst r2
          simp
        · rw [o2] at r2; exact absurd r2 hsz
      rw [run_overlaps_other w tS tR e hu (tsz E.P e) hzz ⟨ba, oa, none⟩ ⟨bb, off * l.sz, none⟩ _ _ _ _ hne tA T kA ys.size hsa hshb hkA (hfr _) (hfr _)]
      rfl
end Go.AW
end

section
set_option linter.unusedVariables false
set_option linter.unusedSimpArgs false
set_option linter.unnecessarySimpa false
namespace Go.AW
open Go
theorem grown_of_below {w w' : World} (h : Go.RowKit.Below w.heap.size w w') : w.grownBy w' none := ⟨h.os, h.tape, h.output, h.size, fun k hk _ => h.block k hk⟩
theorem grown_refl (w : World) : w.grownBy w none := ⟨rfl, rfl, rfl, Nat.le_refl _, fun _ _ _ => rfl⟩
/-- Arguments that are single cells. -/
theorem vrs_c {Γ : Ctx} {w : World} : ∀ {cs vs : List Value}, VRs Γ w (cs.map AV.c) vs → vs = cs
  | [], [], _ => rfl
  | [], _ :: _, h => by simp [VRs] at h
  | _ :: _, [], h => by simp [VRs] at h
  | c :: cs, v :: vs, h => by
    have h0 := h.2 0 (.c c) v rfl rfl
    cases h0
    rw [vrs_c (cs := cs) (vs := vs) ⟨by simpa using h.1, fun j a v ha hv => h.2 (j + 1) a v (by simpa using ha) (by simpa using hv)⟩]
/-- A library's contract that leaves the world as it was, but for new blocks. -/
theorem Pur.lib {E : Env} {k : FuncId} {v : Value} (cs : List Value) (hv : v.oneCell' = true) (h : ∀ Γ σ w, R E Γ σ w → Calls E.P k cs.toArray w fun e w' => e = .returned v ∧ w.grownBy w' none) : Pur E k (cs.map AV.c) (.c v) := by
  intro σ Γ w vs hr hvs
  have hvs := vrs_c hvs
  have : vs = cs.toArray := by rw [← hvs]
  subst this
  refine (h Γ σ w hr).mono ?_
  rintro e w' ⟨rfl, hg⟩
  obtain ⟨h1, h2⟩ := hr.same_ctx hg
  exact .inl ⟨v, rfl, Γ, .c v, σ, h1, h2, .c v hv, rfl, rfl⟩
/-- A table of whole numbers. -/
theorem R.tab {E : Env} {Γ : Ctx} {σ : Store} {w : World} (hr : R E Γ σ w) {g : Nat} {name : String} {k : IntKind} {zs : List Int} (hn : E.P.globalNamed name = some g) (hg : E.G g = some (zs.map fun z => .c (.int k z))) : Lib.TabIs E.P w name k zs := by
  obtain ⟨h1, h2, xs, t, fr, h3, h4⟩ := hr.glob g _ hg
  unfold Lib.TabIs World.var?
  rw [hn]
  simp only [Option.bind_some, h3, Option.some.injEq]
  rw [List.length_map] at h4
  refine Array.ext (by simp [h4]) fun i hi hi' => ?_
  obtain ⟨b, o, e, _, _, hc⟩ := h1.pp_cells
  cases e
  obtain ⟨u, u1, u2, u3⟩ := hc i (.c (.int k (zs[i]'(by omega)))) (by simp [List.getElem?_eq_getElem (show i < zs.length by omega)])
  have hu : xs[i]? = some u := by simpa [World.cell?, h3] using u1
  rw [Array.getElem?_eq_getElem hi] at hu
  rw [Option.some.inj hu]
  cases u3
  simp
end Go.AW
end

section
set_option linter.unusedVariables false
set_option linter.unusedSimpArgs false
set_option linter.unnecessarySimpa false
namespace Go.AW
open Go
/-- The record's temporaries with yield's arguments in them. -/
def putP (ps : List Tmp) (args : List AV) (f : Nat → AV) : Nat → AV := (ps.zip args).foldl (fun f p => upd f p.1 p.2) f
theorem TR.putP {N : Nat} {Γ : Ctx} {w : World} : ∀ (ps : List Tmp) (as : List AV) (vs : List Value) (f : Nat → AV) (tmps : Array Value), TR N Γ w f tmps → (∀ p ∈ ps, p < N) → VRs Γ w as vs →
    TR N Γ w (putP ps as f) ((ps.zip vs).foldl (fun t p => t.setIfInBounds p.1 p.2) tmps)
  | [], as, vs, f, tmps, h, _, _ => by simpa [AW.putP] using h
  | p :: ps, [], [], f, tmps, h, _, _ => by simpa [AW.putP] using h
  | p :: ps, [], _ :: _, _, _, _, _, hv => by simp [VRs] at hv
  | p :: ps, _ :: _, [], _, _, _, _, hv => by simp [VRs] at hv
  | p :: ps, a :: as, v :: vs, f, tmps, h, hp, hv => by
    have h0 := hv.2 0 a v rfl rfl
    have := TR.putP ps as vs (AW.upd f p a) (tmps.setIfInBounds p v) (h.upd (hp p (by simp)) h0) (fun q hq => hp q (by simp [hq])) ⟨by simpa using hv.1, fun j a v ha hv' => hv.2 (j + 1) a v (by simpa using ha) (by simpa using hv')⟩
    simpa [AW.putP] using this
theorem TR.of_lp {E : Env} {Γ : Ctx} {σ : Store} {w : World} (hr : R E Γ σ w) {i b : Nat} {L : Loop} {vs : List AV} (hi : σ.get i = some (.lp b L vs)) : w.heap[b]? = some (.loop L) ∧ TR L.tmps.size Γ w (argF vs) L.tmps := by
  obtain ⟨l, hl, ho, _⟩ := hr.loc hi
  obtain ⟨h0, q1, q2, q3, q4⟩ := ho
  refine ⟨q2, rfl, fun t ht => ?_, fun t ht => ?_⟩
  · have hv : t < vs.length := by omega
    have := q4 t vs[t] L.tmps[t] (List.getElem?_eq_getElem hv) (Array.getElem?_eq_getElem ht)
    simpa [argF, List.getD, List.getElem?_eq_getElem hv, Array.getD, ht] using this
  · simp [argF, List.getD, List.getElem?_eq_none (show vs.length ≤ t by omega)]
/-- The record at a round's end. -/
def lpAt (b : Nat) (L : Loop) (vs : List AV) (st : LoopState) (p : Option Code) : AObj := .lp b { L with state := st, pending := p } vs
/-- What a round's body leaves behind. -/
def roundQ (b i : Nat) (L : Loop) (vs : List AV) (K : AV → Store → Prop) : AExit → (Nat → AV) → Store → Prop := fun e _ s => (∃ p, s.get i = some (lpAt b L vs .busy p)) ∧ (match e with
  | .normal => K (.c (.bool true)) (s.set i (lpAt b L vs .ready none))
  | .ret => K (.c (.bool false)) (s.set i (lpAt b L vs .done (some .ret)))
  | .exit id => K (.c (.bool false)) (s.set i (lpAt b L vs .done (some (.exit id))))
  | _ => False)
/-- A round, out of the walks of its two parts. -/
theorem AYield.of {E : Env} {b i : Nat} {L : Loop} {vs args : List AV} {σ : Store} {K : AV → Store → Prop} (hpan : ∀ a s, ¬ E.pan a s) (hi : σ.get i = some (.lp b L vs)) (hps : ∀ p ∈ L.params.toList, p < L.tmps.size) (hlen : args.length = L.params.size) (hA : noRF L.assign = true) (hB : noRF L.body = true)
    (h : AW E σ.next L.tmps.size L.assign (putP L.params.toList args (argF vs)) σ fun e f1 σ1 => e = .normal ∧ ∃ p, σ1.get i = some (lpAt b L vs .ready p) ∧ AW E σ.next L.tmps.size L.body f1 (σ1.set i (lpAt b L vs .busy p)) (roundQ b i L vs K)) :
    AYield E b args σ K := by
  intro Γ w ws hr hv
  obtain ⟨hL, hT⟩ := TR.of_lp hr hi
  have hsz : ws.size = L.params.size := by have := hv.1; simp at this; omega
  refine ⟨L.fn, _, L.assign, L.body, run_yield hL hsz, ?_⟩
  refine roundIn_of_wpIn trivial ?_
  have hT' := TR.putP L.params.toList args ws.toList (argF vs) L.tmps hT hps hv
  have h1 := h (some b) ⟨[], w.heap.size, [], false⟩ Γ w { tmps := (L.params.toList.zip ws.toList).foldl (fun t p => t.setIfInBounds p.1 p.2) L.tmps, defers := [] } ⟨.inr hA, by simp, by simp⟩ (Nat.le_of_eq hr.next.symm) hr hT' (Marks.refl w _)
  have et : (L.params.zip ws).foldl (fun t p => t.setIfInBounds p.1 p.2) L.tmps = (L.params.toList.zip ws.toList).foldl (fun t p => t.setIfInBounds p.1 p.2) L.tmps := by
    rw [← Array.foldl_toList, Array.toList_zip]
  rw [et]
  refine wpIn_mono h1 ?_
  rintro e a1 w1 (⟨Γ1, f1, σ1, x, hxt, hx, hr1, ht1, hm1, rfl, p, hlp, hb⟩ | ⟨v, rfl, ⟨_, _, _, _, _, _, hp⟩, _⟩)
  · have he : e = .normal := by cases e <;> first | rfl | exact hxt.elim
    subst he
    obtain ⟨l, hl, ho, hlt⟩ := hr1.loc hlp
    obtain ⟨h0, q1, q2, q3, q4⟩ := ho
    obtain ⟨k1, k2⟩ := hr1.put (w' := w1.putObj b (.loop { L with state := .busy, pending := p })) (o' := lpAt b L vs .busy p) hlp hl q1 rfl rfl rfl rfl rfl rfl fun hx hh => ⟨h0, q1, hh, q3, fun t a v h1 h2 => (q4 t a v h1 h2).ext hx⟩
    refine ⟨_, run_beginRound q2 rfl, ?_⟩
    have h2 := hb (some b) ⟨[], w.heap.size, [], false⟩ (Γ1.set i l) _ a1 ⟨.inr hB, by simp, by simp⟩ hx.le' k2 (ht1.ext k1) (hm1.ext hr1 k1)
    refine wpIn_mono h2 ?_
    rintro e2 a2 w2 (⟨Γ2, f2, σ2, x2, hxt2, hx2, hr2, ht2, hm2, ⟨p2, hlp2⟩, hq⟩ | ⟨v, rfl, ⟨_, _, _, _, _, _, hp⟩, _⟩)
    · obtain ⟨l2, hl2, ho2, _⟩ := hr2.loc hlp2
      obtain ⟨g0, g1, g2, g3, g4⟩ := ho2
      have fin : ∀ j : Option Code, K (.c (.bool j.isNone)) (σ2.set i (lpAt b L vs (if j.isNone then .ready else .done) j)) → ∃ v w', (Instr.endRound b j).run E.P w2 = .ok v w' ∧ Ends E Γ w K (.returned v) w' := fun j hk => by
        obtain ⟨m1, m2⟩ := hr2.put (w' := w2.putObj b (.loop { L with state := if j.isNone then .ready else .done, pending := j })) (o' := lpAt b L vs (if j.isNone then .ready else .done) j) hlp2 hl2 g1 rfl rfl rfl rfl rfl rfl fun hx hh => ⟨g0, g1, hh, g3, fun t a v h1 h2 => (g4 t a v h1 h2).ext hx⟩
        refine ⟨_, _, run_endRound j g2, .inl ⟨_, rfl, _, .c (.bool j.isNone), _, ?_, m2, .c _ rfl, hk⟩⟩
        rw [hr.next]
        exact ((hx.trans (k1.mono hx.le')).trans hx2).trans (m1.mono hx2.le')
      cases x2 <;> cases e2 <;> first | exact hxt2.elim | exact hq.elim | skip
      · exact fin none hq
      · obtain rfl : _ = _ := hxt2
        exact fin (some (.exit _)) hq
      · exact fin (some .ret) hq
    · exact absurd hp (hpan _ _)
  · exact absurd hp (hpan _ _)
/-- A round whose answer, or whose store, is written down otherwise. -/
theorem AYield.fin {E : Env} {b : Nat} {args : List AV} {σ : Store} {Q Q' : AV → Store → Prop} (h : AYield E b args σ Q) (hq : StoreBel σ → ∀ a σ', Q a σ' → Fin σ.next σ' a Q') : AYield E b args σ Q' := by
  intro Γ w vs hr hv
  obtain ⟨fn, tmps, assign, body, h1, h2⟩ := h Γ w vs hr hv
  refine ⟨fn, tmps, assign, body, h1, h2.mono ?_⟩
  rintro e w' (⟨v, rfl, Γ', a, σ', h1, h2, h3, h4⟩ | h)
  · obtain ⟨a', σ2, k1, k2, k3, k4⟩ := hq hr.storeBel a σ' h4
    obtain ⟨Γ2, m1, m2, m3⟩ := k1.ctx h2
    refine .inl ⟨v, rfl, Γ2, a', σ2, ?_, m2, m3 _ _ _ h3 k2 k3, k4⟩
    rw [← hr.next] at m1
    exact h1.trans m1
  · exact .inr h

theorem grown_loop (w : World) (o : Obj) (L : Loop) : w.grownBy ((w.alloc o).alloc (.loop L)) none := by
  refine ⟨rfl, rfl, rfl, ?_, fun k hk _ => ?_⟩
  · show w.heap.size ≤ ((w.heap.push o).push _).size
    simp <;> omega
  · show ((w.heap.push o).push (.loop L))[k]? = w.heap[k]?
    rw [Array.getElem?_push, if_neg (by simp; omega), Array.getElem?_push, if_neg (by omega)]
theorem Marks.push {w w1 : World} {ds0 : Ds0} {a : Act} (h : Marks w1 ds0 a) (hst : ds0.st = false) (h0 : ds0.hb ≤ w.heap.size) (hlt : ∀ (ms : List Nat), a.defers = ms.map mark ++ ds0.ds → (∀ D ∈ ms, D < w.heap.size)) (hd : w1.heap[w.heap.size]? = some (.deferred (some []))) :
    Marks w1 ds0 { a with defers := [mark w.heap.size] ++ a.defers } := by
  obtain ⟨⟨h1, ms, h2, h3, h4⟩, h5⟩ := h
  refine ⟨⟨h1, w.heap.size :: ms, by rw [h2]; rfl, List.nodup_cons.2 ⟨fun hm => ?_, h3⟩, fun D hD => ?_⟩, h5.1, fun e => by rw [hst] at e; cases e⟩
  · exact absurd (hlt ms h2 _ hm) (Nat.lt_irrefl _)
  · rcases List.mem_cons.1 hD with rfl | hD
    · exact ⟨h0, hd⟩
    · exact h4 D hD
/-- What follows a range over a function whose pending jump is this. -/
def jumpQ (Q : AExit → (Nat → AV) → Store → Prop) (f : Nat → AV) (s : Store) : Option Code → Prop
  | none => Q .normal f s
  | some .ret => Q .ret f s
  | some (.exit id) => Q (.exit id) f s
  | _ => False
/-- The statement 'for .. := range g', out of the contract of the function that is ranged over. -/
theorem AW.rangeFunc {E : Env} {n N : Nat} {f : Nat → AV} {σ : Store} {Q : AExit → (Nat → AV) → Store → Prop} {g : Operand} {ps : Array Tmp} {assign body : Code} {k : FuncId} {first cap : List AV}
    (hpan : ∀ a s, ¬ E.pan a s) (hg : aeval E.G f g = .fn (.func k) first cap) (hk : callable E.P k = true)
    (h : ∀ (b : Nat) (L : Loop), L.params = ps → L.assign = assign → L.body = body → L.tmps.size = N → argF ((List.range N).map f) = f →
      ACalls E k (first ++ .fn (.yield b) [] [] :: cap) (σ.alloc (lpAt b L ((List.range N).map f) .ready none)) fun _ s => ∃ st p, st ≠ .busy ∧ s.get σ.next = some (lpAt b L ((List.range N).map f) st p) ∧
        jumpQ Q f (s.set σ.next (lpAt b L ((List.range N).map f) .exhausted p)) p) :
    AW E n N (.rangeFunc g ps assign body) f σ Q := by
  intro rd ds0 Γ w a hrd hn hr ht hd
  obtain rfl : rd = none := hrd.1.resolve_right (by simp [noRF])
  refine wpIn_rangeFunc fun fn _ => ?_
  obtain ⟨L, hL⟩ : ∃ L : Loop, L = { state := .ready, pending := none, fn := fn, tmps := a.tmps, params := ps, assign := assign, body := body, defers := w.heap.size } := ⟨_, rfl⟩
  obtain ⟨w1, hw1⟩ : ∃ w1, w1 = (w.alloc (.deferred (some []))).alloc (.loop L) := ⟨_, rfl⟩
  have hgr : w.grownBy w1 none := by rw [hw1]; exact grown_loop w _ L
  have hb1 : w1.heap[w.heap.size + 1]? = some (.loop L) := by
    rw [hw1]
    show ((w.heap.push _).push _)[w.heap.size + 1]? = _
    rw [Array.getElem?_push, if_pos (by simp)]
  have hb0 : w1.heap[w.heap.size]? = some (.deferred (some [])) := by
    rw [hw1]
    show ((w.heap.push _).push _)[w.heap.size]? = _
    rw [Array.getElem?_push, if_neg (by simp), Array.getElem?_push, if_pos rfl]
  have hLt : L.tmps = a.tmps := by rw [hL]
  have hfar : argF ((List.range N).map f) = f := by
    funext t
    simp only [argF, List.getD, List.getElem?_map]
    by_cases htN : t < N
    · rw [List.getElem?_range htN]; rfl
    · rw [List.getElem?_eq_none (by simp; omega), ht.far t (by omega)]; rfl
  obtain ⟨hx, hR⟩ := hr.new (w' := w1) (o' := .lp (w.heap.size + 1) L ((List.range N).map f)) (l' := ⟨some (w.heap.size + 1), 0, 0, 0, none⟩) hgr (.inr ⟨_, rfl, Nat.le_succ _⟩) rfl (by
    intro hx
    refine ⟨rfl, rfl, hb1, by rw [hLt, ht.size]; simp, fun t x v h1 h2 => ?_⟩
    rw [List.getElem?_map, Option.map_eq_some_iff] at h1
    obtain ⟨t', h1, rfl⟩ := h1
    obtain ⟨hlt, rfl⟩ := List.getElem?_eq_some_iff.1 h1
    simp at hlt
    simp only [List.getElem_range]
    have hv := (ht.rel t hlt).ext hx
    rw [hLt] at h2
    have : a.tmps.getD t Go.undef = v := by rw [Array.getD_eq_getD_getElem?, h2]; rfl
    rw [this] at hv
    exact hv)
  have hgv := ht.eval hr g
  rw [hg] at hgv
  generalize hge : a.eval g = gv at hgv
  cases hgv with
  | fn _ _ _ xs ys hxs hys h1 h2 =>
    have hv : VRs (Γ.alloc ⟨some (w.heap.size + 1), 0, 0, 0, none⟩) w1 (first ++ .fn (.yield (w.heap.size + 1)) [] [] :: cap) (xs ++ #[Value.func (.yield (w.heap.size + 1)) #[] #[]] ++ ys).toList := by
      have a1 : VRs (Γ.alloc ⟨some (w.heap.size + 1), 0, 0, 0, none⟩) w1 first xs.toList := ⟨by simpa using hxs, fun j a v ha hv => (h1 j a v ha (by simpa using hv)).ext hx⟩
      have a2 : VRs (Γ.alloc ⟨some (w.heap.size + 1), 0, 0, 0, none⟩) w1 cap ys.toList := ⟨by simpa using hys, fun j a v ha hv => (h2 j a v ha (by simpa using hv)).ext hx⟩
      have a3 : VRs (Γ.alloc ⟨some (w.heap.size + 1), 0, 0, 0, none⟩) w1 [AV.fn (.yield (w.heap.size + 1)) [] []] [Value.func (.yield (w.heap.size + 1)) #[] #[]] := by
        refine ⟨rfl, fun j a v ha hv => ?_⟩
        cases j with
        | zero =>
          cases ha; cases hv
          exact .fn _ [] [] #[] #[] rfl rfl (by intro j a x h; simp at h) (by intro j a x h; simp at h)
        | succ j => simp at ha
      have := (a1.append a3).append a2
      simpa using this
    have hcall := h (w.heap.size + 1) L (by rw [hL]) (by rw [hL]) (by rw [hL]) (by rw [hLt, ht.size]) hfar _ w1 _ (by
      have : lpAt (w.heap.size + 1) L ((List.range N).map f) .ready none = .lp (w.heap.size + 1) L ((List.range N).map f) := by rw [hL]; rfl
      rw [this]; exact hR) hv
    refine ⟨w.heap.size + 1, [mark w.heap.size], w1, ⟨.fn (.func k) ys, xs ++ #[Value.func (.yield (w.heap.size + 1)) #[] #[]]⟩, w1, k, _, w1, ?_, ?_, fun _ _ => trivial, ?_, fun h => (by cases h), callsIn_rd (rd := none) (n := 0) (callsIn_wide.2 (hcall.mono ?_))⟩
    · rw [hw1, hL]; exact run_enterLoop_outer fn a.tmps ps assign body
    · have ec : ∀ v, a.eval (.const v) = v := fun _ => rfl
      simp [resolve, rangeCall, hge, Deferred.ofValue, ec]
    · exact run_callFunc hk _ _
    · have hm1 : Marks w1 ds0 { a with defers := [mark w.heap.size] ++ a.defers } := by
        refine (hd.ext hr hx).push (by cases hs : ds0.st with | false => rfl | true => exact absurd (hrd.2.2 hs) (by simp [noRF])) hd.1.1 (fun ms hms D hD => ?_) hb0
        obtain ⟨⟨_, ms', h2, _, h4⟩, _⟩ := hd
        have : ms = ms' := by
          have e : ms.map mark = ms'.map mark := by
            rw [h2] at hms
            exact (List.append_cancel_right hms).symm
          exact (List.map_inj_right (fun x y hxy => by simpa [mark] using hxy)).1 e
        subst this
        exact (Array.getElem?_eq_some_iff.1 (h4 D hD).2).1
      rintro e w3 (⟨v, rfl, Γ3, a3, σ3, k1, k2, k3, st, p, hst, hlp, hq⟩ | ⟨v, rfl, Γ3, a3, σ3, _, _, _, hp⟩)
      · obtain ⟨l, hl, ho, _⟩ := k2.loc hlp
        obtain ⟨g0, g1, g2, g3, g4⟩ := ho
        obtain ⟨m1, m2⟩ := k2.put (w' := w3.putObj (w.heap.size + 1) (.loop { L with state := .exhausted, pending := p })) (o' := lpAt (w.heap.size + 1) L ((List.range N).map f) .exhausted p) hlp hl g1 rfl rfl rfl rfl rfl rfl fun hx hh => ⟨g0, g1, hh, g3, fun t a v h1 h2 => (g4 t a v h1 h2).ext hx⟩
        refine ⟨p, _, run_endLoop g2 hst, ?_⟩
        have hxx := (hx.trans (k1.mono hx.le')).trans (m1.mono (Nat.le_trans hx.le' k1.le'))
        have hT : TR N _ (w3.putObj (w.heap.size + 1) (.loop { L with state := .exhausted, pending := p })) f a.tmps := ((ht.ext hx).ext k1).ext m1
        have hM : Marks (w3.putObj (w.heap.size + 1) (.loop { L with state := .exhausted, pending := p })) ds0 { a with defers := [mark w.heap.size] ++ a.defers } := (hm1.ext hR k1).ext k2 m1
        cases p with
        | none => exact .inl ⟨_, f, _, .normal, trivial, hxx.mono hn, m2, hT, hM, hq⟩
        | some c =>
          cases c <;> first | exact hq.elim | skip
          · exact wpIn_exit (.inl ⟨_, f, _, .exit _, rfl, hxx.mono hn, m2, hT, hM, hq⟩)
          · exact wpIn_ret (.inl ⟨_, f, _, .ret, trivial, hxx.mono hn, m2, hT, hM, hq⟩)
      · exact absurd hp (hpan _ _)
end Go.AW
end

section
set_option linter.unusedVariables false
set_option linter.unusedSimpArgs false
set_option linter.unnecessarySimpa false
namespace Go.AW
open Go

section
variable {E : Env} {n N : Nat} {f : Nat → AV} {σ : Store} {Q : AExit → (Nat → AV) → Store → Prop}
/-- A nil slice in a cell of an object of the store, taken into the store as a row that only grows. -/
theorem AW.adoptLg {c : Code} {p : Nat} {T : TypeId} {g : Nat} {es es' : List AV} (T' : TypeId) (hp : σ.get p = some (.arr T g es)) (hl : es'.length = es.length) (hc : ∀ (k : Nat) (e e' : AV), es[k]? = some e → es'[k]? = some e' → e'.cells.length = e.cells.length)
    (hv : ∀ (k : Nat) (e e' : AV) (j : Nat) (x y : AV), es[k]? = some e → es'[k]? = some e' → e.cells[j]? = some x → e'.cells[j]? = some y → y = x ∨ (x = .nl ∧ y = .lg σ.next []))
    (h : AW E n N c f ((σ.alloc (.log T' 0)).set p (.arr T g es')) Q) : AW E n N c f σ Q := by
  intro rd ds0 Γ w a hrd hn hr hT hd
  have hg : w.grownBy w none := ⟨rfl, rfl, rfl, Nat.le_refl _, fun _ _ _ => rfl⟩
  obtain ⟨hx, hR⟩ := hr.new (o' := .log T' 0) (l' := ⟨none, tsz E.P T', 0, 0, some 0⟩) hg (.inl rfl) (by simp [AObj.lim]) fun hx => ⟨rfl, rfl, Nat.le_refl _, Nat.zero_le _, rfl, rfl⟩
  have hpn : p ≠ σ.next := fun e => by
    have := hr.bnd p (by omega)
    rw [hp] at this; cases this
  have hR2 := hr.recell hR (es' := es') hp (by simp [hpn, hp]) (by simp [Ctx.alloc, hr.next, hpn]) hl hc (by
    intro k e e' j x y u h1 h2 h3 h4 h5
    rcases hv k e e' j x y h1 h2 h3 h4 with rfl | ⟨rfl, rfl⟩
    · exact h5.ext hx
    · cases h5 with
      | nl ad =>
        refine .lg σ.next [] _ ?_ ?_ (fun _ _ _ e he => by simp at he)
        · exact .ps [] ad 0 0 0 (fun _ _ => Go.undef) (Nat.le_refl 0) (fun h => absurd rfl h) (by intro k e j x hk; simp at hk) (by intro k e j x hk; simp at hk) (by intro k e j x hk; simp at hk)
        · refine .rs σ.next 0 0 0 ad 0 (by simp [Ctx.alloc, hr.next]) (Nat.le_refl _) fun l hl => ?_
          simp [Ctx.alloc, hr.next] at hl
          subst hl
          exact ⟨Nat.zero_le _, fun _ => ⟨rfl, rfl, rfl⟩⟩)
  have hT' : TR N (Γ.alloc ⟨none, tsz E.P T', 0, 0, some 0⟩) w f a.tmps := hT.ext hx
  exact wpIn_mono (h rd ds0 (Γ.alloc ⟨none, tsz E.P T', 0, 0, some 0⟩) w a hrd (Nat.le_trans hn hx.le') hR2 hT' hd) fun e a w' hp => Post.trans (hx.mono hn) hp
end

section
variable {E : Env} {n N : Nat} {ow lv : List Nat} {c : ACode} {f : Nat → AV} {σ : Store} {Q : Kn}
theorem loopW.adoptLg {p : Nat} {T : TypeId} {g : Nat} {es es' : List AV} (T' : TypeId) (hp : σ.get p = some (.arr T g es)) (hl : es'.length = es.length) (hc : ∀ (k : Nat) (e e' : AV), es[k]? = some e → es'[k]? = some e' → e'.cells.length = e.cells.length)
    (hv : ∀ (k : Nat) (e e' : AV) (j : Nat) (x y : AV), es[k]? = some e → es'[k]? = some e' → e.cells[j]? = some x → e'.cells[j]? = some y → y = x ∨ (x = .nl ∧ y = .lg σ.next []))
    (h : loopW E n N ow lv c f ((σ.alloc (.log T' 0)).set p (.arr T g es')) Q) : loopW E n N ow lv c f σ Q := AW.adoptLg T' hp hl hc hv h
/-- One element with cells. -/
theorem one_hc {cs cs' : List AV} (h : cs'.length = cs.length) : ∀ (k : Nat) (e e' : AV), [AV.agg cs][k]? = some e → [AV.agg cs'][k]? = some e' → e'.cells.length = e.cells.length := by
  intro k e e' h1 h2
  match k, h1, h2 with
  | 0, h1, h2 => cases h1; cases h2; exact h
/-- Cells that are the same, but for one nil slice. -/
def cellsAs (i : Nat) : List AV → List AV → Prop
  | [], [] => True
  | x :: xs, y :: ys => (y = x ∨ (x = .nl ∧ y = .lg i [])) ∧ cellsAs i xs ys
  | _, _ => False
theorem cellsAs_get {i : Nat} : ∀ {xs ys : List AV}, cellsAs i xs ys → xs.length = ys.length ∧ ∀ (j : Nat) (x y : AV), xs[j]? = some x → ys[j]? = some y → y = x ∨ (x = .nl ∧ y = .lg i [])
  | [], [], _ => ⟨rfl, fun j x y h => by simp at h⟩
  | x :: xs, y :: ys, h => by
    obtain ⟨h1, h2⟩ := cellsAs_get h.2
    refine ⟨by simp [h1], fun j a b ha hb => ?_⟩
    cases j with
    | zero => cases ha; cases hb; exact h.1
    | succ j => exact h2 j a b (by simpa using ha) (by simpa using hb)
/-- The same at an object of one element. -/
theorem loopW.adopt1 {p : Nat} {T : TypeId} {g : Nat} {cs cs' : List AV} (T' : TypeId) (hp : σ.get p = some (.arr T g [.agg cs])) (hv : cellsAs σ.next cs cs')
    (h : loopW E n N ow lv c f ((σ.alloc (.log T' 0)).set p (.arr T g [.agg cs'])) Q) : loopW E n N ow lv c f σ Q := by
  obtain ⟨h1, h2⟩ := cellsAs_get hv
  refine loopW.adoptLg (es' := [.agg cs']) T' hp rfl (one_hc h1.symm) ?_ h
  intro k e e' j x y q1 q2 q3 q4
  match k, q1, q2 with
  | 0, q1, q2 => cases q1; cases q2; exact h2 j x y q3 q4

/-- Behind a round that chooses the next state. -/
def roundE {ι : Type} (N : Nat) (L : ι → List (Nat × AV)) (S : ι → Store) (p : ι → Prop) (Q : Kn) : Kn := fun e f σ => match e with
  | .normal => ∃ y, p y ∧ Below (S y) σ ∧ KnowsL N f (L y)
  | e => Q e f σ
@[simp ↓] theorem roundE_normal {ι : Type} (N : Nat) (L : ι → List (Nat × AV)) (S : ι → Store) (p : ι → Prop) (Q : Kn) (f : Nat → AV) (σ : Store) : roundE N L S p Q .normal f σ = (∃ y, p y ∧ Below (S y) σ ∧ KnowsL N f (L y)) := (rfl)
@[simp ↓] theorem roundE_exit {ι : Type} (N : Nat) (L : ι → List (Nat × AV)) (S : ι → Store) (p : ι → Prop) (Q : Kn) (i : Nat) (f : Nat → AV) (σ : Store) : roundE N L S p Q (.exit i) f σ = Q (.exit i) f σ := (rfl)
@[simp ↓] theorem roundE_ret {ι : Type} (N : Nat) (L : ι → List (Nat × AV)) (S : ι → Store) (p : ι → Prop) (Q : Kn) (f : Nat → AV) (σ : Store) : roundE N L S p Q .ret f σ = Q .ret f σ := (rfl)
theorem loop_e {ι : Type} (hm : E.P.follows .mixedOrders = true) (hd : drawsT c = drawsU c) (x0 : ι) (ov : ι → List (Nat × AV)) (S : ι → Store) (P : ι → Prop) (μ : ι → Nat)
    (hP : P x0) (hS : ∀ x, P x → n ≤ (S x).next ∧ StoreBel (S x) ∧ BelL (S x).next (hdL lv (ov x) f)) (hσ : Below (S x0) σ) (hf : KnowsL N f (hdL lv (ov x0) f))
    (round : ∀ x, P x → wpA E n N ow c (tf (tL (hdL lv (ov x) f))) (S x) (roundE N (fun y => hdL lv (ov y) f) S (fun y => P y ∧ μ y < μ x) Q)) : loopW E n N ow lv c f σ Q := by
  have kw : ∀ x f' σ', P x → Below (S x) σ' → KnowsL N f' (hdL lv (ov x) f) → KnowsW n N f' σ' (hdL lv (ov x) f) (S x) := fun x f' σ' hx h1 h2 => by
    obtain ⟨a1, a2, a3⟩ := hS x hx
    refine ⟨h1.forget a1 a2, fun p hp => ⟨(h2.knows p hp).1, (h2.knows p hp).2 ▸ sr_kz _ _ _, .inr (a3.mem p hp)⟩⟩
  refine AW.loopW (fun x => hdL lv (ov x) f) S P μ x0 hP (kw x0 f σ hP hσ hf) fun x hx => ?_
  rw [fr_tL]
  refine AW.mono (wpA_ok hm _ _ _ _ hd (round x hx)) ?_
  intro e f' σ' h
  cases e <;> first | exact h | skip
  obtain ⟨y, ⟨h1, h2⟩, h3, h4⟩ := h
  exact ⟨y, h1, kw _ f' σ' h1 h3 h4, h2⟩
end

/-- One object's block has changed its mark; the object is dropped. -/
theorem R.unfreeze {E : Env} {Γ : Ctx} {σ : Store} {w : World} (hr : R E Γ σ w) {i g : Nat} {l : Loc} (hl : Γ.get i = some l) (hb : l.blk = some g) (n : Nat) :
    ExtN Γ.next Γ w (Γ.drop i) (w.drew.freeze ⟨g, 0, none⟩ n) ∧ R E (Γ.drop i) (σ.drop i) (w.drew.freeze ⟨g, 0, none⟩ n) := by
  obtain ⟨w', hw'⟩ : ∃ w', w' = w.drew.freeze ⟨g, 0, none⟩ n := ⟨_, rfl⟩
  have e1 : w'.os = w.os ∧ w'.tape = w.tape ∧ w'.output = w.output ∧ w'.heap.size = w.heap.size := by
    rw [hw']; unfold World.freeze; split
    · exact ⟨rfl, rfl, rfl, rfl⟩
    · exact ⟨rfl, rfl, rfl, Array.size_modify ..⟩
  have e2 : ∀ j, j ≠ g → w'.heap[j]? = w.heap[j]? := by
    intro j hj
    rw [hw']; unfold World.freeze; split
    · rfl
    · show (w.heap.modify g _)[j]? = _
      rw [Array.getElem?_modify, if_neg (fun e => hj e.symm)]
  have e3 : ∀ b k, w'.cell? ⟨b, k, none⟩ = w.cell? ⟨b, k, none⟩ := by
    intro b k
    by_cases hj : b = g
    · subst hj
      rw [hw']; unfold World.freeze; split
      · rfl
      · show World.cell? { w.drew with heap := w.heap.modify b _ } _ = _
        unfold World.cell?
        simp only [Array.getElem?_modify, if_true]
        cases hh : w.heap[b]? with
        | none => rfl
        | some o =>
          cases o <;> simp [Option.map_some] <;> rfl
    · exact World.cell?_of_block (w := w) (e2 b hj)
  rw [← hw']
  have hx : ExtN Γ.next Γ w (Γ.drop i) w' := by
    refine ⟨e1.1, e1.2.1, e1.2.2.1, by omega, fun b hbl ho => ?_, fun b k hbl hf => ⟨fun v hv => (e3 b k).trans hv, fun j l hj hjb => hf j l (Ctx.drop_some hj).1 hjb⟩, fun j l' _ hj => ⟨l', (Ctx.drop_some hj).1, Nat.le_refl _, fun _ => rfl⟩, Nat.le_refl _, Nat.le_refl _, rfl⟩
    refine ⟨.inl (e2 b fun e => ho ⟨i, l, hl, by rw [hb, e]⟩), fun ⟨j, l', hj, hjb⟩ => ho ⟨j, l', (Ctx.drop_some hj).1, hjb⟩⟩
  refine ⟨hx, ?_⟩
  have hd := hr.drop i
  refine ⟨hd.next, hd.dom, hd.bnd, hd.inj, fun j o l' ho hl' => ?_, fun g cs hg => (hr.glob g cs hg).ext hx, hd.gbel, ?_, hd.lims⟩
  · obtain ⟨q1, q2⟩ := Ctx.drop_some hl'
    have ho : (if j = i then none else σ.get j) = some o := ho
    rw [if_neg q2] at ho
    refine (hr.objs j o l' ho q1).ext hx fun b hb' => e2 b ?_
    rintro rfl
    exact q2 (hr.inj j i l' l b q1 hl hb' hb)
  · have := hr.base
    show Γ.base ≤ _
    omega
end Go.AW
end

section
set_option linter.unusedVariables false
set_option linter.unusedSimpArgs false
set_option linter.unnecessarySimpa false
namespace Go.AW
open Go

theorem AW.bel {E : Env} {n N : Nat} {c : Code} {f : Nat → AV} {σ : Store} {Q : AExit → (Nat → AV) → Store → Prop} (h : StoreBel σ → AW E n N c f σ Q) : AW E n N c f σ Q :=
  fun rd ds0 Γ w a hrd hn hr ht hd => h hr.storeBel rd ds0 Γ w a hrd hn hr ht hd
/-- The function, called with yield, hands over these items, one after the other, and stops when yield says so. -/
def Iter (E : Env) (k : FuncId) (cap : List AV) (items : List (List AV)) : Prop :=
  ∀ (b : Nat) (σ : Store) (I : Nat → Store → Prop) (Out : Store → Prop), (∀ j s, I j s → σ.next ≤ s.next) → (∀ s, Out s → σ.next ≤ s.next) → I 0 σ →
    (∀ j args s, items[j]? = some args → I j s → AYield E b args s fun r s' => (r = .c (.bool true) ∧ I (j + 1) s') ∨ (r = .c (.bool false) ∧ Out s')) →
    ACalls E k (.fn (.yield b) [] [] :: cap) σ fun _ s => I items.length s ∨ Out s
theorem alloc_put (T : Store) (i : Nat) (X Y : AObj) (h : T.next = i) : (T.alloc X).set i Y = T.alloc Y := by subst h; exact alloc_set T X Y
/-- Behind the assignments at a round's start. -/
def asgE (E : Env) (n N : Nat) (ow lv : List Nat) (b : ACode) (i : Nat) (X Y : AObj) (K : Kn) : Kn := fun e f1 σ1 => match e with
  | .normal => σ1.get i = some X ∧ wpA E n N ow b (tf (tpick lv f1)) (σ1.set i Y) K
  | _ => False
/-- Behind a round: on with the next one, or out. -/
def outE (Y : AObj) (n : Nat) (Q : Kn) (f : Nat → AV) (e : AExit) (s : Store) : Prop := ∃ T, T.next = n ∧ StoreBel T ∧ Below (T.alloc Y) s ∧ ∀ Z, Q e f (T.alloc Z)
def rndE (Y : AObj) (T : Store) (Q : Kn) (f : Nat → AV) : Kn := fun e _ s => match e with
  | .normal => Below (T.alloc Y) s
  | .ret => outE Y T.next Q f .ret s
  | .exit id => outE Y T.next Q f (.exit id) s
  | .goto _ => False
@[simp ↓] theorem asgE_normal (E : Env) (n N : Nat) (ow lv : List Nat) (b : ACode) (i : Nat) (X Y : AObj) (K : Kn) (f : Nat → AV) (σ : Store) : asgE E n N ow lv b i X Y K .normal f σ = (σ.get i = some X ∧ wpA E n N ow b (tf (tpick lv f)) (σ.set i Y) K) := (rfl)
@[simp ↓] theorem rndE_normal (Y : AObj) (T : Store) (Q : Kn) (f f' : Nat → AV) (s : Store) : rndE Y T Q f .normal f' s = Below (T.alloc Y) s := (rfl)
@[simp ↓] theorem rndE_ret (Y : AObj) (T : Store) (Q : Kn) (f f' : Nat → AV) (s : Store) : rndE Y T Q f .ret f' s = outE Y T.next Q f .ret s := (rfl)
@[simp ↓] theorem rndE_exit (Y : AObj) (T : Store) (Q : Kn) (f f' : Nat → AV) (s : Store) (i : Nat) : rndE Y T Q f (.exit i) f' s = outE Y T.next Q f (.exit i) s := (rfl)
theorem putP_tf : ∀ (ps : List Tmp) (args : List AV) (tr : Tr), ∃ t2, putP ps args (tf tr) = tf t2
  | [], _, tr => ⟨tr, by simp [putP]⟩
  | _ :: _, [], tr => ⟨tr, by simp [putP]⟩
  | p :: ps, a :: as, tr => by
    obtain ⟨t2, h⟩ := putP_tf ps as (tr.put (path p) a)
    exact ⟨t2, by rw [← h]; simp [putP, tf_upd]⟩
@[simp] theorem putP_nil (as : List AV) (f : Nat → AV) : putP [] as f = f := by simp [putP]
@[simp] theorem putP_cons (p : Tmp) (ps : List Tmp) (a : AV) (as : List AV) (f : Nat → AV) : putP (p :: ps) (a :: as) f = putP ps as (upd f p a) := by simp [putP]

theorem storeBel_alloc {T : Store} {X : AObj} (h : StoreBel T) (hx : ObjBel (T.next + 1) X) : StoreBel (T.alloc X) := by
  intro i o ho
  simp only [alloc_get] at ho
  split at ho
  · rename_i e; cases ho; exact ⟨by simp [e], hx⟩
  · obtain ⟨h1, h2⟩ := h i o ho
    exact ⟨by simp; omega, h2.mono (Nat.le_succ _)⟩
theorem below_swap {T s : Store} {X Y : AObj} {i : Nat} (hT : T.next = i) (h : Below (T.alloc Y) s) : s.get i = some Y ∧ Below (T.alloc X) (s.set i X) := by
  obtain ⟨h1, h2⟩ := h
  simp only [alloc_next] at h1 h2
  refine ⟨by rw [h2 i (by omega)]; simp [hT], by simpa using h1, fun k hk => ?_⟩
  simp only [alloc_next] at hk
  simp only [set_get, alloc_get, hT]
  split
  · rfl
  · rename_i e
    rw [h2 k hk]
    simp [hT, e]
theorem lpBel {m : Nat} {b : Nat} {L L' : Loop} {vs : List AV} (h : ObjBel m (.lp b L vs)) : ObjBel m (.lp b L' vs) := h

section
variable {E : Env} {n N : Nat} {ow lv : List Nat} {g : Operand} {ps : Array Tmp} {a b : ACode} {f : Nat → AV} {σ : Store} {Q : Kn}
/-- The statement 'for .. := range g' over a function whose items are known. -/
theorem range_it (hm : E.P.follows .mixedOrders = true) (hda : drawsT a = drawsU a) (hdb : drawsT b = drawsU b) (hA : noRF a.er = true) (hB : noRF b.er = true) (hpan : ∀ a s, ¬ E.pan a s) {k : FuncId} {cap : List AV} {items : List (List AV)} (hit : Iter E k cap items)
    (hk : callable E.P k = true) (hps : (ps.toList.all fun p => decide (p < N)) = true) (hg : aeval E.G f g = .fn (.func k) [] cap) (hlen : ∀ x ∈ items, x.length = ps.size) (S : Nat → Store) (hσ : S 0 = σ) (hS : ∀ j, (S j).next = σ.next) (hSb : StoreBel σ → ∀ j, j ≤ items.length → StoreBel (S j))
    (rnd : ∀ j args X Y, items[j]? = some args → wpA E (σ.next + 1) N ow a (putP ps.toList args f) ((S j).alloc X) (asgE E (σ.next + 1) N ow lv b σ.next X Y (rndE Y (S (j + 1)) Q f)))
    (fin : ∀ Z, Q .normal f ((S items.length).alloc Z)) : rangeW E n N ow g ps lv a b f σ Q := by
  refine AW.bel fun hσb => AW.rangeFunc hpan hg hk fun bk L h1 h2 h3 h4 hf => ?_
  obtain ⟨X, hX⟩ : ∃ X, X = lpAt bk L ((List.range N).map f) .ready none := ⟨_, rfl⟩
  obtain ⟨Y, hY⟩ : ∃ Y, Y = lpAt bk L ((List.range N).map f) .busy none := ⟨_, rfl⟩
  rw [← hX]
  refine (hit bk (σ.alloc X) (fun (j : Nat) (s : Store) => s = (S j).alloc X) (fun (s : Store) => ∃ (p : Code) (T : Store), T.next = σ.next ∧ s = T.alloc (lpAt bk L ((List.range N).map f) .done (some p)) ∧ jumpQ Q f (T.alloc (lpAt bk L ((List.range N).map f) .exhausted (some p))) (some p)) ?_ ?_ (by rw [hσ]) ?_).mono ?_
  · rintro j s rfl; simp [hS]
  · rintro s ⟨p, T, hT, rfl, _⟩; simp [hT]
  · rintro j args s hj rfl
    have hjl := (List.getElem?_eq_some_iff.1 hj).1
    obtain ⟨L2, hL2⟩ : ∃ L2 : Loop, L2 = { L with state := .ready, pending := none } := ⟨_, rfl⟩
    have hget : ((S j).alloc X).get σ.next = some (.lp bk L2 ((List.range N).map f)) := by rw [hX, hL2]; simp [hS, lpAt]
    have hlp : ∀ st p, lpAt bk L2 ((List.range N).map f) st p = lpAt bk L ((List.range N).map f) st p := fun st p => by rw [hL2]; rfl
    have h1 : L2.params = ps := by rw [hL2]; exact h1
    have h2 : L2.assign = a.er := by rw [hL2]; exact h2
    have h3 : L2.body = b.er := by rw [hL2]; exact h3
    have h4 : L2.tmps.size = N := by rw [hL2]; exact h4
    refine (AYield.of (K := fun r s' => (r = .c (.bool true) ∧ Below ((S (j + 1)).alloc X) s') ∨ (r = .c (.bool false) ∧ ∃ (p : Code) (T : Store), T.next = σ.next ∧ StoreBel T ∧ Below (T.alloc (lpAt bk L ((List.range N).map f) .done (some p))) s' ∧ jumpQ Q f (T.alloc (lpAt bk L ((List.range N).map f) .exhausted (some p))) (some p)))
      hpan hget ?_ ?_ ?_ ?_ ?_).fin ?_
    · intro p hp
      simp only [h1, h4] at hp ⊢
      exact of_decide_eq_true (List.all_eq_true.1 hps p hp)
    · simp only [h1]; exact hlen args (List.mem_of_getElem? hj)
    · simp only [h2]; exact hA
    · simp only [h3]; exact hB
    · simp only [h1, h2, h3, h4, hf, alloc_next, hS]
      refine AW.mono (wpA_ok hm _ _ _ _ hda (rnd j args X Y hj)) ?_
      intro e f1 σ1 h
      cases e <;> first | exact h.elim | skip
      obtain ⟨g1, g2⟩ := h
      refine ⟨rfl, none, by rw [g1, hX, hlp], ?_⟩
      rw [hlp, ← hY]
      refine AW.keepT lv (AW.mono (wpA_ok hm _ _ _ _ hdb g2) ?_)
      intro e f2 s h
      have hout : ∀ (x : AExit) (c : Code), outE Y (S (j + 1)).next Q f x s → (∀ T, Q x f T → jumpQ Q f T (some c)) →
          (∃ p, s.get σ.next = some (lpAt bk L2 ((List.range N).map f) .busy p)) ∧ ∃ (p : Code) (T : Store), T.next = σ.next ∧ StoreBel T ∧ Below (T.alloc (lpAt bk L ((List.range N).map f) .done (some p))) (s.set σ.next (lpAt bk L2 ((List.range N).map f) .done (some c))) ∧ jumpQ Q f (T.alloc (lpAt bk L ((List.range N).map f) .exhausted (some p))) (some p) := by
        rintro x c ⟨T, t1, t2, t3, t4⟩ hj
        have t1 : T.next = σ.next := by rw [t1, hS]
        exact ⟨⟨none, by rw [hlp, ← hY]; exact (below_swap (X := lpAt bk L ((List.range N).map f) .done (some c)) t1 t3).1⟩, c, T, t1, t2, by rw [hlp]; exact (below_swap t1 t3).2, hj _ (t4 _)⟩
      cases e with
      | normal =>
        have hs := below_swap (X := X) (hS (j + 1)) h
        exact ⟨⟨none, by rw [hlp, ← hY]; exact hs.1⟩, .inl ⟨rfl, by rw [hlp, ← hX]; exact hs.2⟩⟩
      | ret => exact ⟨(hout .ret .ret h fun _ h => h).1, .inr ⟨rfl, (hout .ret .ret h fun _ h => h).2⟩⟩
      | exit id => exact ⟨(hout (.exit id) (.exit id) h fun _ h => h).1, .inr ⟨rfl, (hout (.exit id) (.exit id) h fun _ h => h).2⟩⟩
      | goto l => exact h.elim
    · intro hb r s' hq
      have hxb : ObjBel (σ.next + 1) X := by
        have := (hb σ.next X (by simp [hS])).2
        simpa [hS] using this
      rcases hq with ⟨rfl, hbl⟩ | ⟨rfl, p, T, t1, t2, t3, t4⟩
      · exact ⟨_, _, hbl.forget (by simp [hS]) (storeBel_alloc (hSb hσb (j + 1) hjl) (by rw [hS]; exact hxb)), .refl _, .inr (.c _), .inl ⟨rfl, rfl⟩⟩
      · exact ⟨_, _, t3.forget (by simp [hS, t1]) (storeBel_alloc t2 (by rw [t1]; rw [hX] at hxb; exact hxb)), .refl _, .inr (.c _), .inr ⟨rfl, p, T, t1, rfl, t4⟩⟩
  · rintro _ s (rfl | ⟨p, T, hT, rfl, hj⟩)
    · refine ⟨.ready, none, by simp, by rw [hX]; simp [hS], ?_⟩
      rw [alloc_put _ _ _ _ (hS _)]
      exact fin _
    · refine ⟨.done, some p, by simp, by simp [hT], ?_⟩
      rw [alloc_put _ _ _ _ hT]
      exact hj
end
end Go.AW
end

section
set_option linter.unusedVariables false
set_option linter.unusedSimpArgs false
set_option linter.unnecessarySimpa false
namespace Go.AW
open Go

/-- The same program; with which values it may panic here is said anew. -/
def Env.pn (E : Env) (p : AV → Store → Prop) : Env := { E with pan := p }
section
variable {E : Env} {p : AV → Store → Prop}
@[simp] theorem pn_P : (E.pn p).P = E.P := rfl
@[simp] theorem pn_G : (E.pn p).G = E.G := rfl
@[simp] theorem pn_pan : (E.pn p).pan = p := rfl
theorem R.pn {Γ : Ctx} {σ : Store} {w : World} (h : R E Γ σ w) : R (E.pn p) Γ σ w := ⟨h.next, h.dom, h.bnd, h.inj, h.objs, h.glob, h.gbel, h.base, h.lims⟩
theorem R.of_pn {Γ : Ctx} {σ : Store} {w : World} (h : R (E.pn p) Γ σ w) : R E Γ σ w := ⟨h.next, h.dom, h.bnd, h.inj, h.objs, h.glob, h.gbel, h.base, h.lims⟩
/-- A contract of a function that never panics. -/
theorem ACalls.pn {f : FuncId} {args : List AV} {σ : Store} {Q : AV → Store → Prop} (h : ACalls E f args σ Q) (hp : ∀ a s, ¬ E.pan a s) : ACalls (E.pn p) f args σ Q := by
  intro Γ w vs hr hv
  refine (h Γ w vs hr.of_pn hv).mono ?_
  rintro e w' (⟨v, rfl, Γ', a, σ', h1, h2, h3, h4⟩ | ⟨v, rfl, Γ', a, σ', _, _, _, h4⟩)
  · exact .inl ⟨v, rfl, Γ', a, σ', h1, h2.pn, h3, h4⟩
  · exact absurd h4 (hp _ _)
theorem Pur.pn {f : FuncId} {args : List AV} {r : AV} (h : Pur E f args r) (hp : ∀ a s, ¬ E.pan a s) : Pur (E.pn p) f args r := fun σ => (h σ).pn hp
end

/-! ### A deferred call -/
/-- How the frame leaves: returning, or panicking with this value. -/
def UMode (Γ : Ctx) (w : World) : Option AV → FrameMode → Prop
  | none, u => u = .returning
  | some a, u => ∃ v, u = .panicking [{ v := v, recovered := false }] ∧ VR Γ w a v
/-- What a deferred call comes to: it returns, and the frame below goes on returning. -/
def ADef (E : Env) (k : FuncId) (args : List AV) (m : Option AV) (σ : Store) (K : Store → Prop) : Prop :=
  ∀ (Γ : Ctx) (w : World) (vs : Array Value) (u : FrameMode), R E Γ σ w → VRs Γ w args vs.toList → UMode Γ w m u →
    CallsDIn Fence.wide 0 E.P k vs u w fun e u' w' => ∃ r Γ' σ', e = .returned r ∧ settle u' = .returning ∧ ExtN Γ.next Γ w Γ' w' ∧ R E Γ' σ' w' ∧ K σ'

theorem leavesM_app {P : Program} {fn : Func} {tmps : Array Value} {R : Ending → World → Prop} {u : FrameMode} (hu : u ≠ .run) {hb : Nat} {ds : List Deferred} : ∀ (ms : List Nat) (w : World), ms.Nodup → (∀ D ∈ ms, hb ≤ D ∧ w.heap[D]? = some (.deferred (some []))) →
    (∀ w2, Quiet w w2 → (∀ b : Nat, b < hb → w2.heap[b]? = w.heap[b]?) → LeavesInM Fence.wide 0 P fn tmps R ds u w2) → LeavesInM Fence.wide 0 P fn tmps R (ms.map mark ++ ds) u w
  | [], w, _, _, h => h w (Quiet.refl w) (fun _ _ => rfl)
  | D :: ms, w, hnd, hD, h => by
    obtain ⟨h1, h2⟩ := List.nodup_cons.1 hnd
    obtain ⟨hle, hd⟩ := hD D (by simp)
    have hlt := (Array.getElem?_eq_some_iff.1 hd).1
    refine ⟨hu, .inl ⟨D, w.putObj D (.deferred none), rfl, run_takeDeferred hd, ?_⟩⟩
    refine leavesM_app hu ms _ h2 (fun x hx => ⟨(hD x (by simp [hx])).1, ?_⟩) fun w2 hq hb2 => ?_
    · rw [World.putObj_heap_other (by rintro rfl; exact h1 hx)]
      exact (hD x (by simp [hx])).2
    · refine h w2 ⟨hq.os, hq.tape, hq.output, by rw [hq.size]; simp, fun b => ?_⟩ fun b hb => ?_
      · by_cases e : b = D
        · subst e; exact .inl ⟨_, hd⟩
        · rcases hq.same b with ⟨x, hx⟩ | e'
          · rw [World.putObj_heap_other e] at hx; exact .inl ⟨x, hx⟩
          · rw [World.putObj_heap_other e] at e'; exact .inr e'
      · rw [hb2 b hb, World.putObj_heap_other (by omega)]

/-! ### A body with one deferred closure -/
def AB (E : Env) (rs : List ResultVar) (n N : Nat) (c : Code) (f : Nat → AV) (σ : Store) (Q : AV → Store → Prop) : Prop :=
  ∀ (fn : Func) (Γ0 : Ctx) (w0 : World), fn.results.toList = rs → Γ0.next = n → ∀ (Γ : Ctx) (w : World) (a : Act), ExtN n Γ0 w0 Γ w → R E Γ σ w → TR N Γ w f a.tmps → Marks w ⟨[], w0.heap.size, [], false⟩ a →
    c.wpIn (wideR none) 0 E.P (bodyPostM Fence.wide 0 E.P fn (Ends E Γ0 w0 Q)) a w

section
variable {E : Env} {rs : List ResultVar} {n N : Nat} {f : Nat → AV} {σ : Store} {Q : AV → Store → Prop}

theorem ret_ok {fn : Func} {Γ0 Γ' : Ctx} {w0 w' w2 : World} {f' : Nat → AV} {σ' : Store} {tmps : Array Value} (hn : Γ0.next = n) (hx : ExtN n Γ0 w0 Γ' w') (hr' : R E Γ' σ' w') (ht' : TR N Γ' w' f' tmps) (hres : aRes E fn.results.toList f' σ' (fun l => Fin n σ' (pack l) Q))
    (hq : Quiet w' w2) (hb : ∀ b : Nat, b < w0.heap.size → w2.heap[b]? = w'.heap[b]?) : LeavesIn Fence.wide 0 E.P fn tmps (Ends E Γ0 w0 Q) [] .returning w2 := by
  obtain ⟨v, a, h1, h2, a2, σ2, h3, h4, h5, h6⟩ := results_ok (fn := fn) (K := fun a => Fin n σ' a Q) (hr'.quiet hq) (ht'.quiet hq) hres
  obtain ⟨Γ2, k1, k2, k3⟩ := h3.ctx (hr'.quiet hq)
  have hx := hx.quiet hq hb
  rw [← hn] at hx k1
  exact ⟨v, h1, .inl ⟨v, rfl, Γ2, a2, σ2, hx.trans k1, k2, k3 _ _ _ h2 h4 h5, h6⟩⟩

theorem AB.of {c : Code} (h : AW E n N c f σ (RetPost E n rs Q)) : AB E rs n N c f σ Q := by
  intro fn Γ0 w0 hrs hn Γ w a hx hr ht hm
  subst hrs
  refine wpIn_mono (h none ⟨[], w0.heap.size, [], false⟩ Γ w a ⟨.inl rfl, by simp, by simp⟩ hx.le' hr ht hm) ?_
  have hret : ∀ (Γ' : Ctx) (f' : Nat → AV) (σ' : Store) (a' : Act) (w' : World), ExtN n Γ w Γ' w' → R E Γ' σ' w' → TR N Γ' w' f' a'.tmps → Marks w' ⟨[], w0.heap.size, [], false⟩ a' → aRes E fn.results.toList f' σ' (fun l => Fin n σ' (pack l) Q) →
      LeavesInM Fence.wide 0 E.P fn a'.tmps (Ends E Γ0 w0 Q) a'.defers .returning w' := fun Γ' f' σ' a' w' hx' hr' ht' hm' hres =>
    leavesM_of_marks hm' (by simp) fun w2 hq hb => ret_ok hn (hx.trans hx') hr' ht' hres hq hb
  rintro e a' w' (⟨Γ', f', σ', x, h1, h2, h3, h4, h5, h6⟩ | ⟨v, rfl, ⟨Γ', b, σ', h1, h2, h3, h4⟩, h5⟩)
  · cases x <;> try exact h6.elim
    · cases e <;> try exact h1.elim
      exact hret Γ' f' σ' a' w' h2 h3 h4 h5 h6
    · cases e <;> try exact h1.elim
      exact hret Γ' f' σ' a' w' h2 h3 h4 h5 h6
  · refine leavesM_of_marks h5 (by simp) fun w2 hq hb => ?_
    have hx := (hx.trans h1).quiet hq hb
    rw [← hn] at hx
    exact .inr ⟨v, rfl, Γ', b, σ', hx, h2.quiet hq, h3.quiet hq, h4⟩

/-- Code ahead of the deferring one. -/
theorem AB.seq (hpan : ∀ a s, ¬ E.pan a s) {c d : Code} (h : AW E n N c f σ fun e f σ => match e with
    | .normal => AB E rs n N d f σ Q
    | e => RetPost E n rs Q e f σ) : AB E rs n N (.seq c d) f σ Q := by
  intro fn Γ0 w0 hrs hn Γ w a hx hr ht hm
  subst hrs
  refine wpIn_seq (wpIn_mono (h none ⟨[], w0.heap.size, [], false⟩ Γ w a ⟨.inl rfl, by simp, by simp⟩ hx.le' hr ht hm) ?_)
  rintro e a' w' (⟨Γ', f', σ', x, h1, h2, h3, h4, h5, h6⟩ | ⟨v, rfl, ⟨Γ', b, σ', h1, h2, h3, h4⟩, h5⟩)
  · cases x <;> try exact h6.elim
    · cases e <;> try exact h1.elim
      exact h6 fn Γ0 w0 rfl hn Γ' w' a' (hx.trans h2) h3 h4 h5
    · cases e <;> try exact h1.elim
      exact leavesM_of_marks h5 (by simp) fun w2 hq hb => ret_ok hn (hx.trans h2) h3 h4 h6 hq hb
  · exact absurd h4 (hpan _ _)

theorem ACalls.of_AB {k : FuncId} {fn : Func} {c : Code} {args : List AV} {rsA : Array ResultVar} (hf : E.P.funcs[k]? = some fn) (hb : fn.body = some c) (hN : fn.ntmps = N) (hrs : fn.results = rsA) (hl : args.length ≤ N)
    (h : StoreBel σ → AB E rsA.toList σ.next N c (argF args) σ Q) : ACalls E k args σ Q := by
  subst hN; subst hrs
  intro Γ w vs hr hv
  have hsz : vs.size = args.length := by have := hv.1; simp at this; exact this.symm
  refine (callsIn_wide (n := 0)).1 (callsIn_of_wp_marks hf hb trivial (h hr.storeBel fn Γ w rfl hr.next Γ w _ (ExtN.refl Γ w (by rw [hr.next]; exact Nat.le_refl _)) hr ?_ (Marks.refl w _)))
  refine ⟨by simp; omega, fun t ht => ?_, fun t ht => ?_⟩
  · simp only [argF, Array.getD_eq_getD_getElem?, Array.getElem?_append]
    by_cases h1 : t < vs.size
    · rw [if_pos h1]
      have ha := List.getElem?_eq_getElem (l := args) (i := t) (by omega)
      have hx := Array.getElem?_eq_getElem h1
      rw [hx]
      simp only [List.getD, ha, Option.getD_some]
      exact hv.2 t _ _ ha (by rw [Array.getElem?_toList]; exact hx)
    · have : args[t]? = none := List.getElem?_eq_none_iff.2 (by omega)
      simp only [List.getD, this, Option.getD_none]
      exact .junk _
  · have : args[t]? = none := List.getElem?_eq_none_iff.2 (by omega)
    simp [argF, List.getD, this]

theorem aops_app {ow : List Nat} {ops : Array Oper} {Γ0 : Ctx} {w0 : World} {rd : Option Nat} {ds0 : Ds0} {Q' : Exit → Act → World → Prop} {K : (Nat → AV) → Store → Prop} {rest : List Oper}
    (hQ : ∀ Γ w f σ a, ExtN n Γ0 w0 Γ w → R E Γ σ w → TR N Γ w f a.tmps → Marks w ds0 a → K f σ → wpListIn (wideR rd) 0 E.P ops Q' rest a w)
    (hP : ∀ v w a, PanRes E n Γ0 w0 v w → Marks w ds0 a → Q' (.panic [{ v := v, recovered := false }]) a w) :
    ∀ (l : List Oper) (f : Nat → AV) (σ : Store) (Γ : Ctx) (w : World) (a : Act), ExtN n Γ0 w0 Γ w → R E Γ σ w → TR N Γ w f a.tmps → Marks w ds0 a → (∀ o ∈ l, kpOk ds0 o.dst) → aops E ow N ops l f σ K → wpListIn (wideR rd) 0 E.P ops Q' (l ++ rest) a w := by
  intro l
  induction l with
  | nil => intro f σ Γ w a hx hr ht hd _ h; exact hQ Γ w f σ a hx hr ht hd h
  | cons o l ih =>
    intro f σ Γ w a hx hr ht hd hw h
    unfold aops at h
    rw [List.cons_append]
    unfold wpListIn
    split at h
    · rename_i g hg
      obtain ⟨h1, h2⟩ := h
      cases g with
      | true =>
        have h := h1 rfl
        rw [if_pos (aGuard_ok ht hg)]
        refine Up.upon (opK_ok (ρ := a.eval) hr (fun x _ => ht.eval hr x) (fun _ => rfl) h) (opK_defer h) ?_ ?_
        · rintro v w' ⟨Γ', x, σ', h1, h2, h3, h4⟩
          obtain ⟨f', ht', hk, hd'⟩ := aput_ok (ht.ext h1) h3 h4
          exact ih f' σ' Γ' w' _ (hx.trans (h1.mono hx.le')) h2 ht' ((hd.ext hr h1).put (hw o (by simp))) (fun o ho => hw o (by simp [ho])) hk
        · intro v w' h
          obtain ⟨Γ', h1⟩ := h.ext
          exact hP v w' a (.of_res hx h) (hd.ext hr h1)
      | false =>
        have h := h2 rfl
        rw [if_neg (by rw [aGuard_ok ht hg]; simp)]
        obtain ⟨f', ht', hk, hd'⟩ := aput_ok ht (VR.undef_ Γ w) h
        exact ⟨fun _ _ => trivial, ih f' σ Γ w _ hx hr ht' (hd.put (hw o (by simp))) (fun o ho => hw o (by simp [ho])) hk⟩
    · exact h.elim

/-- Only these variables. -/
def keepF (kps : List Nat) (f : Nat → AV) : Nat → AV := fun t => if kps.contains t then f t else .junk
/-- The region that defers, and what follows. -/
theorem AB.defer (hpan : ∀ a s, ¬ E.pan a s) {l1 l2 : List Oper} {od : Oper} {id : Nat} {rest : Code} {cd : Call} {g : Operand} (hod : od.op = .defer cd) (hgd : od.guard = none) (hcd : cd.callee = .value g) (hargs : cd.args = #[]) (ow : List Nat) (p : (Nat → AV) → Store → AV → Store → Prop) (kps : List Nat)
    (hkp : (kps.all fun t => decide (t < N) && !wrC t rest && (l2.all fun o => o.dst != some t)) = true)
    (h : aops E ow N (l1 ++ od :: l2).toArray l1 f σ fun f1 σ1 => ∃ kc cap, aeval E.G f1 g = .fn (.func kc) [] cap ∧ callable E.P kc = true ∧ aput N f1 od.dst (.tup []) fun f2 =>
      (aops (E.pn (p f2 σ1)) ow N (l1 ++ od :: l2).toArray l2 f2 σ1 fun f3 σ3 => AW (E.pn (p f2 σ1)) σ1.next N rest f3 σ3 fun e f4 σ4 => match e with
        | .normal | .ret => ADef E kc cap none σ4 fun σ5 => aRes E rs f4 σ5 fun l => Fin n σ5 (pack l) Q
        | _ => False) ∧
      ∀ a σ4, p f2 σ1 a σ4 → ADef E kc cap (some a) σ4 fun σ5 => aRes E rs (keepF kps f2) σ5 fun l => Fin n σ5 (pack l) Q) : AB E rs n N (.seq (.region id (l1 ++ od :: l2).toArray false) rest) f σ Q := by
  intro fn Γ0 w0 hrs hn Γ w a hx hr ht hm
  subst hrs
  refine wpIn_seq (wpIn_region_lit ?_)
  refine aops_app (E := E) (ow := ow) (N := N) (n := n) (Γ0 := Γ0) (w0 := w0) (rd := none) (ds0 := ⟨[], w0.heap.size, [], false⟩) ?_ (fun v w a hp _ => ?_) l1 f σ Γ w a hx hr ht hm (fun o _ d _ p hp => by simp at hp) h
  rotate_left
  · obtain ⟨_, _, _, _, _, _, hp⟩ := hp
    exact absurd hp (hpan _ _)
  rintro Γ1 w1 f1 σ1 a1 hx1 hr1 ht1 hm1 ⟨kc, cap, hg, hcal, hput⟩
  have hgv := ht1.eval hr1 g
  rw [hg] at hgv
  generalize hge : a1.eval g = gv at hgv
  cases hgv with
  | fn _ _ _ xs ys hxs hys q1 q2 =>
    obtain rfl : xs = #[] := Array.eq_empty_of_size_eq_zero (by simpa using hxs.symm)
    obtain ⟨f2, ht2, ⟨hA, hB⟩, hd2⟩ := aput_ok ht1 (VR.undef_ Γ1 w1) hput
    have hrun : (execOp a1.eval od).run E.P w1 = .ok (.defer ⟨.fn (.func kc) ys, #[]⟩) w1 := by
      obtain ⟨dst, op, ty, pos, after, guard⟩ := od
      simp only at hod
      subst hod
      simp [execOp, resolve, hcd, hge, Deferred.ofValue, hargs]
    unfold wpListIn
    rw [if_pos (by unfold Region.wanted; rw [hgd])]
    refine ⟨fun _ _ => trivial, ?_⟩
    show Oper.uponIn (wideR none) 0 E.P od a1 _ _ ((od.semAt none a1.eval).run E.P w1)
    rw [Oper.semAt_none, hrun, Oper.uponIn_defer]
    obtain ⟨a2, ha2⟩ : ∃ a2 : Act, a2 = { a1 with defers := ⟨.fn (.func kc) ys, #[]⟩ :: a1.defers }.put od.dst undef := ⟨_, rfl⟩
    have hta : a2.tmps = (a1.put od.dst undef).tmps := by
      rw [ha2]; cases od.dst <;> rfl
    have hda : a2.defers = ⟨.fn (.func kc) ys, #[]⟩ :: a1.defers := by
      rw [ha2]; cases od.dst <;> rfl
    rw [← ha2]
    rw [← hta] at ht2
    obtain ⟨⟨hm10, ms, hm11, hm12, hm13⟩, _⟩ := hm1
    rw [List.append_nil] at hm11
    have hk := fun t ht => by
      have := List.all_eq_true.1 hkp t ht
      simp only [Bool.and_eq_true, decide_eq_true_eq, Bool.not_eq_true', List.all_eq_true] at this
      exact this
    obtain ⟨ds1, hds1⟩ : ∃ ds1 : Ds0, ds1 = ⟨⟨.fn (.func kc) ys, #[]⟩ :: a1.defers, w1.heap.size, kps.map (fun t => (t, a2.tmps.getD t undef)), false⟩ := ⟨_, rfl⟩
    have hkps : ∀ q ∈ ds1.kp, a2.tmps[q.1]? = some q.2 := by
      rw [hds1]
      intro q hq
      obtain ⟨t, ht, rfl⟩ := List.mem_map.1 hq
      have hlt := (hk t ht).1.1
      have := ht2.size
      simp [Array.getD_eq_getD_getElem?, Array.getElem?_eq_getElem (show t < a2.tmps.size by omega)]
    have hm2 : Marks w1 ds1 a2 := ⟨by rw [hds1]; exact ⟨Nat.le_refl _, [], by simp [hda], by simp, by simp⟩, hkps, by rw [hds1]; simp⟩
    -- how such a frame leaves
    have leave : ∀ (m : Option AV) (u : FrameMode) (Γ4 : Ctx) (w4 : World) (σ4 : Store) (a4 : Act) (f5 : Nat → AV) (N5 : Nat), ExtN Γ1.next Γ1 w1 Γ4 w4 → R E Γ4 σ4 w4 → Marks w4 ds1 a4 → TR N5 Γ4 w4 f5 a4.tmps → UMode Γ4 w4 m u → u ≠ .run → VRs Γ4 w4 cap ys.toList →
        ADef E kc cap m σ4 (fun σ5 => aRes E fn.results.toList f5 σ5 fun l => Fin n σ5 (pack l) Q) → LeavesInM Fence.wide 0 E.P fn a4.tmps (Ends E Γ0 w0 Q) a4.defers u w4 := by
      intro m u Γ4 w4 σ4 a4 f5 N5 hx4 hr4 hm4 ht4 hu hur hcap hdef
      obtain ⟨⟨_, ms4, e1, e2, e3⟩, _⟩ := hm4
      rw [e1, hds1]
      refine leavesM_app (hb := w1.heap.size) hur ms4 w4 e2 (fun D hD => by have := e3 D hD; rw [hds1] at this; exact this) fun w5 hq hb5 => ?_
      refine ⟨hur, .inr ⟨fun h => (by cases h), .func kc, ys, kc, ys, rfl, ?_, fun _ _ => trivial, ?_⟩⟩
      · show (callFunc kc (#[] ++ ys)).run E.P w5 = _
        rw [run_callFunc hcal]; simp
      · have hu5 : UMode Γ4 w5 m u := by
          cases m with
          | none => exact hu
          | some b => obtain ⟨v, e, hv⟩ := hu; exact ⟨v, e, hv.quiet hq⟩
        have hcap5 : VRs Γ4 w5 cap ys.toList := ⟨hcap.1, fun j a v ha hv => (hcap.2 j a v ha hv).quiet hq⟩
        refine (hdef Γ4 w5 ys u (hr4.quiet hq) hcap5 hu5).mono ?_
        rintro e u' w6 ⟨r, Γ6, σ6, rfl, hset, hx6, hr6, hres⟩
        show LeavesInM Fence.wide 0 E.P fn a4.tmps (Ends E Γ0 w0 Q) a1.defers (settle u') w6
        rw [hset, hm11]
        have hx45 : ExtN Γ1.next Γ1 w1 Γ4 w5 := hx4.quiet hq hb5
        have hx16 := hx45.trans (hx6.mono hx4.le')
        have hx06 := hx1.trans (hx16.mono hx1.le')
        refine leavesM_marks (hb := w0.heap.size) (by simp) ms w6 hm12 (fun D hD => ⟨(hm13 D hD).1, hr1.mark_stays hx16 (hm13 D hD).2⟩) fun w7 hq7 hb7 => ?_
        exact ret_ok hn hx06 hr6 ((ht4.quiet hq).ext hx6) hres hq7 hb7
    have hcap1 : VRs Γ1 w1 cap ys.toList := ⟨by simpa using hys, fun j a v ha hv => q2 j a v ha (by simpa using hv)⟩
    have hcapx : ∀ {Γ4 : Ctx} {w4 : World}, ExtN Γ1.next Γ1 w1 Γ4 w4 → VRs Γ4 w4 cap ys.toList := fun hx4 => ⟨hcap1.1, fun j a v ha hv => (hcap1.2 j a v ha hv).ext hx4⟩
    have panic : ∀ v w4 a4, PanRes (E.pn (p f2 σ1)) Γ1.next Γ1 w1 v w4 → Marks w4 ds1 a4 → LeavesInM Fence.wide 0 E.P fn a4.tmps (Ends E Γ0 w0 Q) a4.defers (.panicking [{ v := v, recovered := false }]) w4 := by
      rintro v w4 a4 ⟨Γ4, b, σ4, hx4, hr4, hv4, hp4⟩ hm4
      have hkv : ∀ t ∈ kps, a4.tmps[t]? = some (a2.tmps.getD t undef) := fun t ht => by
        have := hm4.2.1 (t, a2.tmps.getD t undef) (by rw [hds1]; exact List.mem_map.2 ⟨t, ht, rfl⟩)
        exact this
      refine leave (some b) _ Γ4 w4 σ4 a4 (keepF kps f2) a4.tmps.size hx4 hr4.of_pn hm4 ⟨rfl, fun t ht => ?_, fun t ht => ?_⟩ ⟨v, rfl, hv4⟩ (by simp) (hcapx hx4) (hB b σ4 hp4)
      · unfold keepF
        by_cases hc : kps.contains t = true
        · rw [if_pos hc]
          have hc := List.contains_iff_mem.1 hc
          rw [Array.getD_eq_getD_getElem?, hkv t hc]
          exact (ht2.rel t (hk t hc).1.1).ext hx4
        · rw [if_neg hc]; exact .junk _
      · unfold keepF
        split
        · rename_i hc
          have := hkv t (List.contains_iff_mem.1 hc)
          rw [Array.getElem?_eq_none ht] at this
          cases this
        · rfl
    refine (aops_ok (E := E.pn (p f2 σ1)) (ow := ow) (N := N) (n := Γ1.next) (Γ0 := Γ1) (w0 := w1) (rd := none) (ds0 := ds1) ?_ ?_ l2 f2 σ1 Γ1 w1 a2 (ExtN.refl Γ1 w1 (Nat.le_refl _)) hr1.pn ht2 hm2 ?_ hA)
    · intro Γ3 w3 f3 σ3 a3 hx3 hr3 ht3 hm3 hAW
      rw [← hr1.next] at hAW
      refine wpIn_mono (hAW none ds1 Γ3 w3 a3 ⟨.inl rfl, fun q hq => ?_, by rw [hds1]; simp⟩ hx3.le' hr3 ht3 hm3) ?_
      · rw [hds1] at hq
        obtain ⟨t, ht, rfl⟩ := List.mem_map.1 hq
        exact (hk t ht).1.2
      · rintro e a4 w4 (⟨Γ4, f4, σ4, x, h1, h2, h3, h4, h5, h6⟩ | ⟨v, rfl, ⟨Γ4, b, σ4, h1, h2, h3, h4⟩, h5⟩)
        · have hx4 := hx3.trans h2
          cases x <;> try exact h6.elim
          · cases e <;> try exact h1.elim
            exact leave none .returning Γ4 w4 σ4 a4 f4 N hx4 h3.of_pn h5 h4 rfl (by simp) (hcapx hx4) h6
          · cases e <;> try exact h1.elim
            exact leave none .returning Γ4 w4 σ4 a4 f4 N hx4 h3.of_pn h5 h4 rfl (by simp) (hcapx hx4) h6
        · exact panic v w4 a4 ⟨Γ4, b, σ4, hx3.trans h1, h2, h3, h4⟩ h5
    · intro v w4 a4 hp hm4
      exact panic v w4 a4 hp hm4
    · intro o ho d hd q hq
      rw [hds1] at hq
      obtain ⟨t, ht, rfl⟩ := List.mem_map.1 hq
      rintro rfl
      exact absurd hd (by simpa using (hk t ht).2 o ho)
end
end Go.AW
end

section
set_option linter.unusedVariables false
set_option linter.unusedSimpArgs false
set_option linter.unnecessarySimpa false
namespace Go.AW
open Go

/-- An operation that calls nothing. -/
def simpleOp (o : Oper) : Bool := match o.op with
  | .move _ | .assign _ | .binOp .. | .load .. | .store .. | .typeAssert .. | .extract .. | .field .. | .makeInterface .. => true
  | _ => false
theorem val_shape {P : Program} {w : World} (s : Sem Value) : (∃ v w', (do pure (Next.value (← s)) : Sem Next).run P w = .ok (.value v) w') ∨ ∃ h w', (do pure (Next.value (← s)) : Sem Next).run P w = .halt h w' := by
  simp only [Sem.run_bind]
  cases s.run P w with
  | ok v w' => exact .inl ⟨v, w', by simp [Result.andThen]⟩
  | halt h w' => exact .inr ⟨h, w', by simp [Result.andThen]⟩
theorem unit_shape {P : Program} {w : World} (s : Sem Unit) : (∃ w', (do s; pure Next.skip : Sem Next).run P w = .ok .skip w') ∨ ∃ h w', (do s; pure Next.skip : Sem Next).run P w = .halt h w' := by
  simp only [Sem.run_bind]
  cases s.run P w with
  | ok v w' => exact .inl ⟨w', by simp [Result.andThen]⟩
  | halt h w' => exact .inr ⟨h, w', by simp [Result.andThen]⟩
theorem simple_run {o : Oper} (h : simpleOp o = true) (ρ : Operand → Value) (P : Program) (w : World) : (∃ v w', (execOp ρ o).run P w = .ok (.value v) w') ∨ (∃ w', (execOp ρ o).run P w = .ok .skip w') ∨ ∃ h w', (execOp ρ o).run P w = .halt h w' := by
  obtain ⟨dst, op, ty, pos, after, guard⟩ := o
  cases op <;> simp only [simpleOp] at h <;> first | (cases h; done) | skip
  all_goals
    unfold execOp
    first
    | exact .inl ⟨_, _, rfl⟩
    | (rcases val_shape (P := P) (w := w) _ with h | h
       · exact .inl h
       · exact .inr (.inr h))
    | (rcases unit_shape (P := P) (w := w) _ with h | h
       · exact .inr (.inl h)
       · exact .inr (.inr h))

section
variable {E : Env} {n N : Nat}
/-- Such operations, in a frame that may recover. -/
theorem aopsS_ok {ow : List Nat} {ops : Array Oper} {Γ0 : Ctx} {w0 : World} {ds0 : Ds0} {cs : List Frame} {Q' : Exit → Act → List Frame → World → Prop} {K : (Nat → AV) → Store → Prop}
    (hQ : ∀ Γ w f σ a, ExtN n Γ0 w0 Γ w → R E Γ σ w → TR N Γ w f a.tmps → Marks w ds0 a → K f σ → Q' .normal a cs w) (hpan : ∀ a s, ¬ E.pan a s) :
    ∀ (l : List Oper) (k : Nat) (f : Nat → AV) (σ : Store) (Γ : Ctx) (w : World) (a : Act), (∀ j, l[j]? = ops[k + j]?) → l.all simpleOp = true → ExtN n Γ0 w0 Γ w → R E Γ σ w → TR N Γ w f a.tmps → Marks w ds0 a → (∀ o ∈ l, kpOk ds0 o.dst) → aops E ow N ops l f σ K →
      wpOpsSIn Fence.wide 0 E.P ops Q' (List.range' k l.length) a cs w := by
  intro l
  induction l with
  | nil => intro k f σ Γ w a _ _ hx hr ht hd _ h; exact hQ Γ w f σ a hx hr ht hd h
  | cons o l ih =>
    intro k f σ Γ w a hl hsm hx hr ht hd hw h
    have h0 : ops[k]? = some o := by simpa using (hl 0).symm
    simp only [List.all_cons, Bool.and_eq_true] at hsm
    have ih' := ih (k + 1)
    have hl' : ∀ j, l[j]? = ops[k + 1 + j]? := fun j => by have := hl (j + 1); simpa [Nat.add_assoc, Nat.add_comm 1 j] using this
    simp only [List.length_cons, List.range'_succ]
    unfold wpOpsSIn
    simp only [h0]
    refine ⟨fun _ _ => trivial, ?_⟩
    unfold aops at h
    split at h
    · rename_i g hg
      obtain ⟨h1, h2⟩ := h
      cases g with
      | true =>
        have h := h1 rfl
        rw [if_pos (aGuard_ok ht hg)]
        have hup := opK_ok (ρ := a.eval) hr (fun x _ => ht.eval hr x) (fun _ => rfl) h
        have step : ∀ v w', Res E Γ w (fun a σ' => aput N f o.dst a fun f' => aops E ow N ops l f' σ' K) v w' → wpOpsSIn Fence.wide 0 E.P ops Q' (List.range' (k + 1) l.length) (a.put o.dst v) cs w' := by
          rintro v w' ⟨Γ', x, σ', h1, h2, h3, h4⟩
          obtain ⟨f', ht', hk, hd'⟩ := aput_ok (ht.ext h1) h3 h4
          exact ih' f' σ' Γ' w' _ hl' hsm.2 (hx.trans (h1.mono hx.le')) h2 ht' ((hd.ext hr h1).put (hw o (by simp))) (fun o ho => hw o (by simp [ho])) hk
        rcases simple_run hsm.1 a.eval E.P w with ⟨v, w', e⟩ | ⟨w', e⟩ | ⟨hh, w', e⟩
        · rw [e] at hup ⊢; exact step _ _ hup
        · rw [e] at hup ⊢; exact step _ _ hup
        · rw [e] at hup ⊢
          cases hh <;> first | exact hup.elim | skip
          obtain ⟨_, _, _, _, _, _, hp⟩ := hup
          exact absurd hp (hpan _ _)
      | false =>
        have h := h2 rfl
        rw [if_neg (by rw [aGuard_ok ht hg]; simp)]
        obtain ⟨f', ht', hk, hd'⟩ := aput_ok ht (VR.undef_ Γ w) h
        exact ih' f' σ Γ w _ hl' hsm.2 hx hr ht' (hd.put (hw o (by simp))) (fun o ho => hw o (by simp [ho])) hk
    · exact h.elim

theorem ADef.of (hpan : ∀ a s, ¬ E.pan a s) {k : FuncId} {fn : Func} {id : Nat} {orc : Oper} {l2 : List Oper} {rest : Code} {cr : Call} {args : List AV} {m : Option AV} {σ : Store} {K : Store → Prop} (hf : E.P.funcs[k]? = some fn) (hb : fn.body = some (.seq (.region id (orc :: l2).toArray false) rest)) (hN : fn.ntmps = N)
    (hrs : fn.results = #[]) (hrec : orc.op = .call cr) (hcr : cr.callee = .builtin .recover) (hcra : cr.args = #[]) (hgr : orc.guard = none) (hl2 : l2.all simpleOp = true) (hl : args.length ≤ N) (hrf : noRF rest = true) (ow : List Nat)
    (h : StoreBel σ → aput N (argF args) orc.dst (m.getD (.c .nilIface)) fun f1 => aops E ow N (orc :: l2).toArray l2 f1 σ fun f2 σ2 => AW E σ.next N rest f2 σ2 fun e _ σ' => match e with
      | .normal | .ret => K σ'
      | _ => False) : ADef E k args m σ K := by
  subst hN
  intro Γ w vs u hr hv hu
  have hsz : vs.size = args.length := by have := hv.1; simp at this; exact this.symm
  refine callsDIn_of_wpSIn hf hb trivial fun c0 cs hmode => wpSIn_seq (wpSIn_region ?_)
  obtain ⟨a0, ha0⟩ : ∃ a0 : Act, a0 = { tmps := vs ++ Array.replicate (fn.ntmps - vs.size) undef, defers := [] } := ⟨_, rfl⟩
  have ht0 : TR fn.ntmps Γ w (argF args) a0.tmps := by
    rw [ha0]
    refine ⟨by simp; omega, fun t ht => ?_, fun t ht => ?_⟩
    · simp only [argF, Array.getD_eq_getD_getElem?, Array.getElem?_append]
      by_cases h1 : t < vs.size
      · rw [if_pos h1]
        have ha := List.getElem?_eq_getElem (l := args) (i := t) (by omega)
        have hx := Array.getElem?_eq_getElem h1
        rw [hx]
        simp only [List.getD, ha, Option.getD_some]
        exact hv.2 t _ _ ha (by rw [Array.getElem?_toList]; exact hx)
      · have : args[t]? = none := List.getElem?_eq_none_iff.2 (by omega)
        simp only [List.getD, this, Option.getD_none]
        exact .junk _
    · have : args[t]? = none := List.getElem?_eq_none_iff.2 (by omega)
      simp [argF, List.getD, this]
  have hm0 : Marks w ⟨[], w.heap.size, [], true⟩ a0 := by
    have := Marks.refl w a0 true
    have hd : a0.defers = [] := by rw [ha0]
    rw [hd] at this
    exact this
  rw [← ha0]
  -- what the closure recovers
  obtain ⟨v, u', cs', hrecD, hset, hvv⟩ : ∃ v u' cs', (match recoverD (c0 :: cs) with
      | some (v, cs') => (v, cs')
      | none => (Value.nilIface, c0 :: cs)) = (v, cs') ∧ (settle u' = .returning ∧ cs' = { c0 with mode := u' } :: cs) ∧ VR Γ w (m.getD (.c .nilIface)) v := by
    cases m with
    | none =>
      obtain rfl : u = .returning := hu
      refine ⟨.nilIface, .returning, c0 :: cs, by simp [recoverD, hmode], ⟨rfl, ?_⟩, .c _ rfl⟩
      rw [← hmode]
    | some b =>
      obtain ⟨v, rfl, hv⟩ := hu
      exact ⟨v, .panicking [{ v := v, recovered := true }], { c0 with mode := .panicking [{ v := v, recovered := true }] } :: cs, by simp [recoverD, hmode], ⟨by simp [settle], rfl⟩, hv⟩
  have hrun : (execOp a0.eval orc).run E.P w = .ok .recover w := by
    obtain ⟨dst, op, ty, pos, after, guard⟩ := orc
    simp only at hrec
    subst hrec
    simp [execOp, resolve, hcr, hcra, invoke, builtin]
  obtain ⟨f1, ht1, hk1, _⟩ := aput_ok ht0 hvv (h hr.storeBel)
  have hm1 : Marks w ⟨[], w.heap.size, [], true⟩ (a0.put orc.dst v) := hm0.put (fun d _ p hp => by simp at hp)
  have hops : wpOpsSIn Fence.wide 0 E.P (orc :: l2).toArray (Exit.thenS (rest.wpSIn Fence.wide 0 E.P (bodyPostS E.P fn c0 cs fun e u' w' => ∃ r Γ' σ', e = .returned r ∧ settle u' = .returning ∧ ExtN Γ.next Γ w Γ' w' ∧ R E Γ' σ' w' ∧ K σ')) (bodyPostS E.P fn c0 cs fun e u' w' => ∃ r Γ' σ', e = .returned r ∧ settle u' = .returning ∧ ExtN Γ.next Γ w Γ' w' ∧ R E Γ' σ' w' ∧ K σ'))
      (List.range' 1 l2.length) (a0.put orc.dst v) cs' w := by
    refine aopsS_ok (E := E) (ow := ow) (n := Γ.next) (Γ0 := Γ) (w0 := w) (ds0 := ⟨[], w.heap.size, [], true⟩) (N := fn.ntmps) ?_ hpan l2 1 f1 σ Γ w _ (fun j => by simp [Nat.add_comm 1 j]) hl2 (ExtN.refl Γ w (Nat.le_refl _)) hr ht1 hm1 (fun o _ d _ p hp => by simp at hp) hk1
    intro Γ2 w2 f2 σ2 a2 hx2 hr2 ht2 hm2 hAW
    refine wpSIn_of_wpIn rfl ?_
    rw [← hr.next] at hAW
    refine wpIn_mono (hAW none ⟨[], w.heap.size, [], true⟩ Γ2 w2 a2 ⟨.inl rfl, by simp, fun _ => hrf⟩ hx2.le' hr2 ht2 hm2) ?_
    have fin : ∀ (Γ3 : Ctx) (w3 : World) (σ3 : Store) (a3 : Act), ExtN Γ.next Γ2 w2 Γ3 w3 → R E Γ3 σ3 w3 → Marks w3 ⟨[], w.heap.size, [], true⟩ a3 → K σ3 → bodyPostS E.P fn c0 cs (fun e u' w' => ∃ r Γ' σ', e = .returned r ∧ settle u' = .returning ∧ ExtN Γ.next Γ w Γ' w' ∧ R E Γ' σ' w' ∧ K σ') .ret a3 cs' w3 := by
      intro Γ3 w3 σ3 a3 hx3 hr3 hm3 hK
      refine ⟨hm3.2.2 rfl, u', hset.2, .tuple #[], ?_, _, Γ3, σ3, rfl, hset.1, hx2.trans hx3, hr3, hK⟩
      simp [results, hrs]
    rintro e a3 w3 (⟨Γ3, f3, σ3, x, h1, h2, h3, h4, h5, h6⟩ | ⟨v, rfl, ⟨Γ3, b, σ3, h1, h2, h3, h4⟩, h5⟩)
    · cases x <;> try exact h6.elim
      · cases e <;> try exact h1.elim
        exact fin Γ3 w3 σ3 a3 h2 h3 h5 h6
      · cases e <;> try exact h1.elim
        exact fin Γ3 w3 σ3 a3 h2 h3 h5 h6
    · exact absurd h4 (hpan _ _)
  have e0 : List.range (orc :: l2).toArray.size = 0 :: List.range' 1 l2.length := by
    rw [List.range_eq_range']
    simp [List.range'_succ]
  rw [e0]
  unfold wpOpsSIn
  have hz : (orc :: l2).toArray[0]? = some orc := by simp
  simp only [hz]
  refine ⟨fun _ _ => trivial, ?_⟩
  rw [if_pos (by unfold Region.wanted; rw [hgr]), hrun]
  simp only
  cases hrd : recoverD (c0 :: cs) with
  | none => rw [hrd] at hrecD; simp only [Prod.mk.injEq] at hrecD; obtain ⟨rfl, rfl⟩ := hrecD; exact hops
  | some p => obtain ⟨v', cs2⟩ := p; rw [hrd] at hrecD; simp only [Prod.mk.injEq] at hrecD; obtain ⟨rfl, rfl⟩ := hrecD; exact hops
end
end Go.AW
end

section
set_option linter.unusedVariables false
set_option linter.unusedSimpArgs false
set_option linter.unnecessarySimpa false
namespace Go.AW
open Go

/-- Nothing in it that leads to memory which is written no more. -/
def PlainO : AObj → Prop
  | .arr _ _ es => ∀ e ∈ es, ∀ x ∈ e.cells, ∃ v, x = .c v
  | .log _ _ => True
  | _ => False
def PlainS (σ : Store) : Prop := ∀ i o, σ.get i = some o → PlainO o

theorem objGen {P : Program} {Γ Γ' : Ctx} {w w' : World} {o : AObj} {l l' : Loc} (h : ObjRel P Γ w o l) (h' : ObjRel P Γ' w' o l') : l.gen = l'.gen := by
  cases o with
  | arr T g es => exact h.1.trans h'.1.symm
  | log T n => exact h.1.trans h'.1.symm
  | map a b c => exact h.1.trans h'.1.symm
  | lp a b c => exact h.1.trans h'.1.symm
  | it a => exact h.1.trans h'.1.symm
  | mi a b c d => exact h.1.trans h'.1.symm

theorem own_res {E : Env} {Γ0 Γ : Ctx} {σ s : Store} {w0 w' : World} (hr0 : R E Γ0 σ w0) (hx : ExtN Γ0.next Γ0 w0 Γ w') (hr : R E Γ s w') (hb : Below σ s) (hp : PlainS σ) {i : Nat} {T : TypeId} {es : List AV} {v : Value} (hi : σ.next ≤ i) (ho : s.get i = some (.log T es.length))
    (hc : ∀ e ∈ es, ∃ c, e = .c c) (hv : VR Γ w' (.lg i es) v) :
    ∃ Γ', ExtN Γ0.next Γ0 w0 Γ' w' ∧ R E Γ' (σ.alloc (.arr T 0 es)) w' ∧ VR Γ' w' (.rs σ.next 0 0 es.length) v := by
  obtain ⟨l, hl, hobj, hlt⟩ := hr.loc ho
  have hn0 := hr0.next
  cases hv with
  | lg _ _ _ h1 h2 h3 =>
  obtain ⟨g1, g2, g3, g4, g5⟩ := hobj
  have hcells := h3 l hl g1
  -- its block is new
  have fresh : ∀ b, l.blk = some b → w0.heap.size ≤ b := by
    intro b hbk
    refine Nat.le_of_not_lt fun hlt => ?_
    by_cases hown : Γ0.owns b
    · obtain ⟨j, lj, hj, hjb⟩ := hown
      have hd := hr0.dom j
      rw [hj] at hd
      obtain ⟨o, hoj⟩ := Option.isSome_iff_exists.1 hd.symm
      obtain ⟨_, _, hobj0, hjn⟩ := hr0.loc hoj
      have hsj : s.get j = some o := by rw [hb.2 j hjn]; exact hoj
      obtain ⟨lj', hlj', hobj1, _⟩ := hr.loc hsj
      obtain ⟨l0, hl0, q1, q2⟩ := hx.locs j lj' (by omega) hlj'
      rw [hj] at hl0; cases hl0
      have hg := objGen (hr0.objs j o lj hoj hj) hobj1
      have := q2 hg
      subst this
      have := hr.inj j i _ _ b hlj' hl hjb hbk
      omega
    · exact (hx.sealed b hlt hown).2 ⟨i, l, hl, hbk⟩
  obtain ⟨Γ', hΓ⟩ : ∃ Γ' : Ctx, Γ' = ⟨fun j => if j < σ.next then Γ.get j else if j = σ.next then some ⟨l.blk, l.sz, l.cap, 0, none⟩ else none, σ.next + 1, Γ.base⟩ := ⟨_, rfl⟩
  have get1 : ∀ j, j < σ.next → Γ'.get j = Γ.get j := fun j hj => by rw [hΓ]; simp [hj]
  have get2 : Γ'.get σ.next = some ⟨l.blk, l.sz, l.cap, 0, none⟩ := by rw [hΓ]; simp
  have get3 : ∀ j, σ.next < j → Γ'.get j = none := fun j hj => by rw [hΓ]; simp [show ¬ j < σ.next by omega, show ¬ j = σ.next by omega]
  have cases3 : ∀ j lj, Γ'.get j = some lj → (j < σ.next ∧ Γ.get j = some lj) ∨ (j = σ.next ∧ lj = ⟨l.blk, l.sz, l.cap, 0, none⟩) := by
    intro j lj hj
    rcases Nat.lt_trichotomy j σ.next with h | h | h
    · rw [get1 j h] at hj; exact .inl ⟨h, hj⟩
    · subst h; rw [get2] at hj; cases hj; exact .inr ⟨rfl, rfl⟩
    · rw [get3 j h] at hj; cases hj
  have hxx : ExtN Γ0.next Γ0 w0 Γ' w' := by
    refine ⟨hx.os, hx.tape, hx.output, hx.size, fun b hlt hno => ?_, fun b k hlt hf => ?_, fun j l' hj hl' => ?_, Nat.le_refl _, by rw [hΓ]; simp; omega, by rw [hΓ]; exact hx.base⟩
    · obtain ⟨k1, k2⟩ := hx.sealed b hlt hno
      refine ⟨k1, ?_⟩
      rintro ⟨j, lj, hj, hjb⟩
      rcases cases3 j lj hj with ⟨_, h⟩ | ⟨rfl, rfl⟩
      · exact k2 ⟨j, lj, h, hjb⟩
      · have := fresh b hjb; omega
    · obtain ⟨k1, k2⟩ := hx.fixd b k hlt hf
      refine ⟨k1, fun j lj hj hjb => ?_⟩
      rcases cases3 j lj hj with ⟨_, h⟩ | ⟨rfl, rfl⟩
      · exact k2 j lj h hjb
      · have := fresh b hjb; omega
    · rw [get1 j (by omega)] at hl'
      exact hx.locs j l' hj hl'
  refine ⟨Γ', hxx, ?_, ?_⟩
  · refine ⟨by rw [hΓ]; simp, fun j => ?_, fun j hj => ?_, fun j k lj lk b hj hk hjb hkb => ?_, fun j o lj hoj hlj => ?_, fun g cs hg => (hr0.glob g cs hg).ext hxx, hr0.gbel, by rw [hΓ]; exact hr.base, fun j o lj hoj hlj => ?_⟩
    · rcases Nat.lt_trichotomy j σ.next with h | h | h
      · rw [get1 j h, hr.dom j, hb.2 j h]; simp [show ¬ j = σ.next by omega]
      · subst h; rw [get2]; simp
      · rw [get3 j h]; simp [show ¬ j = σ.next by omega, hr0.bnd j (by omega)]
    · simp at hj
      simp [show ¬ j = σ.next by omega, hr0.bnd j (by omega)]
    · rcases cases3 j lj hj with ⟨a1, h⟩ | ⟨rfl, rfl⟩ <;> rcases cases3 k lk hk with ⟨a2, h'⟩ | ⟨rfl, rfl⟩
      · exact hr.inj j k lj lk b h h' hjb hkb
      · have := hr.inj j i lj l b h hl hjb hkb; omega
      · have := hr.inj k i lk l b h' hl hkb hjb; omega
      · rfl
    · rcases cases3 j lj hlj with ⟨a1, h⟩ | ⟨rfl, rfl⟩
      · have hoj : σ.get j = some o := by simpa [show ¬ j = σ.next by omega] using hoj
        have hq := hr.objs j o lj (by rw [hb.2 j a1]; exact hoj) h
        have hpl := hp j o hoj
        cases o with
        | arr T' g' es' =>
          simp only [ObjRel] at hq ⊢
          obtain ⟨q1, q2, q3, q4, q5, q6⟩ := hq
          refine ⟨q1, q2, q3, q4, q5, ?_⟩
          cases hbk : lj.blk with
          | none => simp only [hbk] at q6 ⊢; exact q6
          | some b =>
            simp only [hbk] at q6 ⊢
            obtain ⟨xs, fr, z1, z2, z3, z4⟩ := q6
            refine ⟨xs, fr, z1, z2, z3, fun k e jj x hk hjj => ?_⟩
            obtain ⟨u, u1, u2, u3⟩ := z4 k e jj x hk hjj
            obtain ⟨c, rfl⟩ := hpl e (List.mem_of_getElem? hk) x (List.mem_of_getElem? hjj)
            cases u3 with
            | c _ hh => exact ⟨_, u1, u2, .c _ hh⟩
        | log T' n' => exact hq
        | map _ _ _ => exact hpl.elim
        | lp _ _ _ => exact hpl.elim
        | it _ => exact hpl.elim
        | mi _ _ _ _ => exact hpl.elim
      · have hoj : o = .arr T 0 es := by simpa using hoj.symm
        subst hoj
        refine ⟨rfl, g2, hcells, by simpa using g3, g4, ?_⟩
        cases hbk : l.blk with
        | none =>
          simp only [hbk] at g5 ⊢
          exact ⟨List.length_eq_zero_iff.1 g5.1, g5.2⟩
        | some b =>
          simp only [hbk] at g5 ⊢
          obtain ⟨xs, fr, z1, z2, z3⟩ := g5
          refine ⟨xs, fr, z1, z2, z3, fun k e jj x hk hjj => ?_⟩
          obtain ⟨c, rfl⟩ := hc e (List.mem_of_getElem? hk)
          have hsz1 := hcells _ (List.mem_of_getElem? hk)
          simp [AV.cells] at hsz1
          cases jj with
          | succ jj => simp [AV.cells] at hjj
          | zero =>
            simp [AV.cells] at hjj
            subst hjj
            cases h1 with
            | ps _ a cap b2 o2 us hcp ha hw hh1 hh =>
              have hne : es ≠ [] := by rintro rfl; simp at hk
              obtain ⟨ha1, _⟩ := ha hne
              cases h2 with
              | rs _ _ _ _ _ _ hi2 hl2 hrs =>
                have hat := (hrs l hl).2 g1
                unfold Loc.rsAt at hat
                simp only [hbk] at hat
                have ha2 := hat.2.2 trivial
                rw [ha1] at ha2
                cases ha2
                have hcell := (hw k _ 0 _ hk rfl).1
                have hone := hh1 k _ 0 _ hk rfl
                have hvv := hh k _ 0 _ hk rfl
                generalize us k 0 = u at hcell hone hvv
                cases hvv with
                | c _ hq =>
                  refine ⟨c, ?_, hq, .c _ hq⟩
                  simp only [World.cell?, z1, AV.cells, List.length_singleton] at hcell
                  rw [← hsz1]
                  simpa using hcell
    · rcases cases3 j lj hlj with ⟨a1, h⟩ | ⟨rfl, rfl⟩
      · have hoj : σ.get j = some o := by simpa [show ¬ j = σ.next by omega] using hoj
        exact hr.lims j o lj (by rw [hb.2 j a1]; exact hoj) h
      · have hoj : o = .arr T 0 es := by simpa using hoj.symm
        subst hoj; rfl
  · cases h2 with
    | rs _ _ _ _ a cap hi2 hl2 hrs =>
      refine .rs σ.next 0 0 es.length a cap (by rw [hΓ]; simp) hl2 fun l' hl' => ?_
      rw [get2] at hl'; cases hl'
      exact ⟨Nat.le_refl _, fun _ => (hrs l hl).2 g1⟩

/-- A row that the callee has made, handed back beside values that lead nowhere. -/
theorem ACalls.own {E : Env} {f : FuncId} {args : List AV} {σ : Store} {T : TypeId} {Q : List AV → List AV → Prop} (hp : PlainS σ)
    (h : ACalls E f args σ fun r s => ∃ i es vs, r = .tup (.lg i es :: vs) ∧ σ.next ≤ i ∧ s.get i = some (.log T es.length) ∧ Below σ s ∧ (∀ e ∈ es, ∃ c, e = .c c) ∧ (∀ e ∈ vs, ∃ c, e = .c c) ∧ Q es vs) :
    ACalls E f args σ fun r s => ∃ es vs, r = .tup (.rs σ.next 0 0 es.length :: vs) ∧ s = σ.alloc (.arr T 0 es) ∧ Q es vs := by
  intro Γ w vs hr hv
  refine (h Γ w vs hr hv).mono ?_
  rintro e w' (⟨v, rfl, Γ', a, s, h1, h2, h3, i, es, us, rfl, q1, q2, q3, q4, q5, q6⟩ | h)
  · cases h3 with
    | tup _ xs hs hh =>
      have hx0 : ∃ x0, xs[0]? = some x0 := ⟨_, Array.getElem?_eq_getElem (by rw [← hs]; simp)⟩
      obtain ⟨x0, hx0⟩ := hx0
      obtain ⟨Γ2, k1, k2, k3⟩ := own_res hr h1 h2 q3 hp q1 q2 q4 (hh 0 _ x0 rfl hx0)
      refine .inl ⟨_, rfl, Γ2, _, _, k1, k2, .tup _ xs (by simpa using hs) fun j b x hb hxj => ?_, es, us, rfl, rfl, q6⟩
      cases j with
      | zero =>
        simp at hb; subst hb
        rw [hx0] at hxj; cases hxj
        exact k3
      | succ j =>
        have hb' : us[j]? = some b := by simpa using hb
        obtain ⟨c, rfl⟩ := q5 b (List.mem_of_getElem? hb')
        have := hh (j + 1) _ x (by simpa using hb') hxj
        cases this with
        | c _ hq => exact .c _ hq
  · exact .inr h
end Go.AW
namespace Go.AW
open Go
/-- Code, as an annotated walk takes it. -/
theorem AW.ann {E : Env} {n N : Nat} {c : Code} {f : Nat → AV} {σ : Store} {Q : Kn} (ow res : List Nat) (hm : E.P.follows .mixedOrders = true) (hd : drawsT (annot ow res c [] []) = drawsU (annot ow res c [] [])) (h : wpA E n N ow (annot ow res c [] []) f σ Q) : AW E n N c f σ Q := by
  have := wpA_ok hm _ _ _ _ hd h
  rw [er_annot] at this
  exact this
theorem ADef.mono {E : Env} {k : FuncId} {args : List AV} {m : Option AV} {σ : Store} {K K' : Store → Prop} (h : ADef E k args m σ K) (hk : ∀ s, K s → K' s) : ADef E k args m σ K' := by
  intro Γ w vs u hr hv hu
  refine (h Γ w vs u hr hv hu).mono ?_
  rintro e u' w' ⟨r, Γ', σ', h1, h2, h3, h4, h5⟩
  exact ⟨r, Γ', σ', h1, h2, h3, h4, hk _ h5⟩
end Go.AW
end
