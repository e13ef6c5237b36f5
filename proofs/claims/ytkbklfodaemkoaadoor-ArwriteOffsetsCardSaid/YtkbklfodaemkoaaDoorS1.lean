/- Code with what a walk wants beside it (the variables that are read later, the plan of regions that draw their order), and the condition of a walk as one term that a simplifier opens. No condition. -/
import Derived.Test.YtkbklfodaemkoaaDoorAw20
import Derived.KernelRfl
set_option linter.unusedVariables false
set_option linter.unusedSimpArgs false
set_option linter.unnecessarySimpa false
namespace Go.AW
open Go

inductive ACode where
  | skip
  | reg (id : Nat) (ops : List Oper)
  | drw (id : Nat) (ops : List Oper) (an : List An)
  | seq (lv : List Nat) (a b : ACode)
  | cond (c : Operand) (a b : ACode)
  | block (id : Nat) (body : ACode)
  | loop (lv : List Nat) (body : ACode)
  | exit (id : Nat)
  | scope (body : ACode)
  | label (l : Nat)
  | ret
  | other (c : Code)

def ACode.er : ACode → Code
  | .skip => .skip
  | .reg id ops => .region id ops.toArray false
  | .drw id ops _ => .region id ops.toArray true
  | .seq _ a b => .seq a.er b.er
  | .cond c a b => .cond c a.er b.er
  | .block id c => .block id c.er
  | .loop _ c => .loop c.er
  | .exit id => .exit id
  | .scope c => .scope c.er
  | .label l => .label l
  | .ret => .ret
  | .other c => c

/-! ### What is read later -/
def insN (x : Nat) : List Nat → List Nat
  | [] => [x]
  | y :: l => if x < y then x :: y :: l else if x = y then y :: l else y :: insN x l
def unionN (a b : List Nat) : List Nat := a.foldl (fun l x => insN x l) b
def Operand.tmpsL : Operand → List Nat
  | .tmp t => [t]
  | _ => []
def opTmps (o : Oper) : List Nat := o.op.operands.toList.flatMap Operand.tmpsL
def liveOps (out : List Nat) : List Oper → List Nat
  | [] => out
  | o :: l =>
    let r := liveOps out l
    let r := match o.dst with
      | some d => r.filter (· != d)
      | none => r
    (opTmps o).foldl (fun l x => insN x l) r
def live (res : List Nat) : Code → List Nat → List (Nat × List Nat) → List Nat
  | .seq a b, out, ex => live res a (live res b out ex) ex
  | .region _ ops _, out, _ => liveOps out ops.toList
  | .cond c a b, out, ex => unionN (Operand.tmpsL c) (unionN (live res a out ex) (live res b out ex))
  | .block id c, out, ex => live res c out ((id, out) :: ex)
  | .loop c, _, ex => let l1 := live res c [] ex; let l2 := unionN l1 (live res c l1 ex); unionN l2 (live res c l2 ex)
  | .exit id, _, ex => (ex.lookup id).getD []
  | .scope c, out, ex => live res c out ex
  | .ret, _, _ => res
  | _, out, _ => out

/-! ### The plan of a region that draws its order -/
def isQ (ow : List Nat) (o : Oper) : Bool := match o.op with
  | .store .. | .alloc _ | .box .. | .makeSlice .. | .makeMap .. | .mapUpdate .. | .insert .. | .mapEntry .. | .entryStore .. | .range .. | .next .. => false
  | .call c => match c.callee with
    | .builtin .len | .builtin .cap | .builtin .min | .builtin .max => true
    | .value (.func k) => ow.contains (k + 6000000)
    | _ => false
  | .assign x => !(isNil x && (o.dst.map fun d => ow.contains (d + 3000000)).getD false) && !(isNil x && (o.dst.map fun d => ow.contains (d + 4000000)).getD false)
  | .buildSlice .. | .convert .. => (ownN ow o.dst == 0)
  | _ => true
def annOf (ow : List Nat) (l : List Oper) : List An :=
  let pre := preOf l []
  let n := l.length
  let eff := (List.range n).filter fun i => !((l[i]?.map (isQ ow)).getD true)
  (List.range n).map fun i =>
    if eff.contains i then .e else
      .q ((0 :: eff.map (· + 1)).filter fun p => !(eff.any fun k => ((pre.getD i []).contains k && decide (p ≤ k)) || ((pre.getD k []).contains i && decide (k < p))))

def annot (ow res : List Nat) : Code → List Nat → List (Nat × List Nat) → ACode
  | .skip, _, _ => .skip
  | .region id ops false, _, _ => .reg id ops.toList
  | .region id ops true, _, _ => .drw id ops.toList (annOf ow ops.toList)
  | .seq a b, out, ex => let lb := live res b out ex; .seq lb (annot ow res a lb ex) (annot ow res b out ex)
  | .cond c a b, out, ex => .cond c (annot ow res a out ex) (annot ow res b out ex)
  | .block id c, out, ex => .block id (annot ow res c out ((id, out) :: ex))
  | .loop c, out, ex => let l := live res (.loop c) out ex; .loop l (annot ow res c l ex)
  | .exit id, _, _ => .exit id
  | .scope c, out, ex => .scope (annot ow res c out ex)
  | .label l, _, _ => .label l
  | .ret, _, _ => .ret
  | c, _, _ => .other c

theorem er_annot (ow res : List Nat) : ∀ (c : Code) (out : List Nat) (ex : List (Nat × List Nat)), (annot ow res c out ex).er = c := by
  intro c
  induction c with
  | region id ops d => intro out ex; cases d <;> simp [annot, ACode.er]
  | seq a b ha hb => intro out ex; simp [annot, ACode.er, ha, hb]
  | cond c a b ha hb => intro out ex; simp [annot, ACode.er, ha, hb]
  | block id c h => intro out ex; simp [annot, ACode.er, h]
  | loop c h => intro out ex; simp [annot, ACode.er, h]
  | scope c h => intro out ex; simp [annot, ACode.er, h]
  | _ => intros; rfl

def drawsOk : ACode → Bool
  | .drw _ ops an => planOk ops an
  | .seq _ a b => drawsOk a && drawsOk b
  | .cond _ a b => drawsOk a && drawsOk b
  | .block _ c => drawsOk c
  | .loop _ c => drawsOk c
  | .scope c => drawsOk c
  | _ => true

/-! ### Variables in a tree -/
inductive Tr where
  | nil
  | node (v : AV) (l r : Tr)
def Tr.get : Tr → List Bool → AV
  | .nil, _ => .junk
  | .node v _ _, [] => v
  | .node _ l r, b :: p => match b with
    | true => r.get p
    | false => l.get p
def Tr.put : Tr → List Bool → AV → Tr
  | .nil, [], v => .node v .nil .nil
  | .nil, b :: p, v => match b with
    | true => .node .junk .nil (Tr.put .nil p v)
    | false => .node .junk (Tr.put .nil p v) .nil
  | .node _ l r, [], v => .node v l r
  | .node u l r, b :: p, v => match b with
    | true => .node u l (r.put p v)
    | false => .node u (l.put p v) r
theorem Tr.get_put : ∀ (t : Tr) (p q : List Bool) (v : AV), (t.put p v).get q = if q = p then v else t.get q
  | .nil, [], q, v => by cases q <;> simp [Tr.put, Tr.get]; rename_i b q; cases b <;> rfl
  | .nil, b :: p, q, v => by
    have ih := Tr.get_put .nil p
    cases b <;> cases q <;> simp [Tr.put, Tr.get]
    all_goals
      rename_i c q
      cases c <;> simp [Tr.get, ih]
  | .node u l r, [], q, v => by cases q <;> simp [Tr.put, Tr.get]
  | .node u l r, b :: p, q, v => by
    have ihl := Tr.get_put l p
    have ihr := Tr.get_put r p
    cases b <;> cases q <;> simp [Tr.put, Tr.get]
    all_goals
      rename_i c q
      cases c <;> simp [ihl, ihr]
def pathF : Nat → Nat → List Bool
  | 0, _ => []
  | _ + 1, 0 => []
  | k + 1, t + 1 => if t % 2 = 0 then true :: pathF k (t / 2) else false :: pathF k (t / 2)
/-- Where a variable lies. -/
def path (t : Nat) : List Bool := pathF (t + 1) t
theorem pathF_inj : ∀ (k k' s t : Nat), s < k → t < k' → pathF k s = pathF k' t → s = t
  | 0, _, _, _, h, _, _ => by omega
  | _ + 1, 0, _, _, _, h, _ => by omega
  | k + 1, k' + 1, 0, 0, _, _, _ => rfl
  | k + 1, k' + 1, 0, t + 1, _, _, h => by unfold pathF at h; split at h <;> cases h
  | k + 1, k' + 1, s + 1, 0, _, _, h => by unfold pathF at h; split at h <;> cases h
  | k + 1, k' + 1, s + 1, t + 1, h1, h2, h => by
    unfold pathF at h
    split at h <;> split at h <;> first | (cases h; done) | skip
    all_goals
      have := pathF_inj k k' (s / 2) (t / 2) (by omega) (by omega) (List.cons.inj h).2
      omega
theorem path_inj {s t : Nat} (h : path s = path t) : s = t := pathF_inj _ _ s t (by omega) (by omega) h
def tf (tr : Tr) : Nat → AV := fun t => tr.get (path t)
theorem tf_upd (tr : Tr) (t : Nat) (v : AV) : upd (tf tr) t v = tf (tr.put (path t) v) := by
  funext s
  simp only [upd_apply, tf, Tr.get_put]
  by_cases h : s = t
  · subst h; simp
  · rw [if_neg h, if_neg fun e => h (path_inj e)]
def tpick (l : List Nat) (f : Nat → AV) : Tr := match l with
  | [] => .nil
  | t :: l => (tpick l f).put (path t) (f t)
theorem tf_tpick (l : List Nat) (f : Nat → AV) (t : Nat) : tf (tpick l f) t = f t ∨ tf (tpick l f) t = .junk := by
  induction l with
  | nil => exact .inr rfl
  | cons s l ih =>
    simp only [tf, tpick, Tr.get_put]
    split
    · rename_i h; rw [path_inj h]; exact .inl rfl
    · exact ih
theorem AW.keepT {E : Env} {n N : Nat} {f : Nat → AV} {σ : Store} {Q : AExit → (Nat → AV) → Store → Prop} {c : Code} (l : List Nat) (h : AW E n N c (tf (tpick l f)) σ Q) : AW E n N c f σ Q := by
  intro rd ds0 Γ w a hn hr ht hd
  refine h rd ds0 Γ w a hn hr ⟨ht.size, fun t hlt => ?_, fun t hge => ?_⟩ hd
  · rcases tf_tpick l f t with e | e
    · rw [e]; exact ht.rel t hlt
    · rw [e]; exact .junk _
  · rcases tf_tpick l f t with e | e
    · rw [e]; exact ht.far t hge
    · exact e
@[simp] theorem Tr.get_nil (p : List Bool) : Tr.nil.get p = .junk := by cases p <;> rfl
@[simp] theorem Tr.get_here (v : AV) (l r : Tr) : (Tr.node v l r).get [] = v := rfl
@[simp] theorem Tr.get_r (v : AV) (l r : Tr) (p : List Bool) : (Tr.node v l r).get (true :: p) = r.get p := rfl
@[simp] theorem Tr.get_l (v : AV) (l r : Tr) (p : List Bool) : (Tr.node v l r).get (false :: p) = l.get p := rfl
@[simp] theorem Tr.put_nil (v : AV) : Tr.nil.put [] v = .node v .nil .nil := rfl
@[simp] theorem Tr.put_nil_r (p : List Bool) (v : AV) : Tr.nil.put (true :: p) v = .node .junk .nil (Tr.nil.put p v) := rfl
@[simp] theorem Tr.put_nil_l (p : List Bool) (v : AV) : Tr.nil.put (false :: p) v = .node .junk (Tr.nil.put p v) .nil := rfl
@[simp] theorem Tr.put_here (u : AV) (l r : Tr) (v : AV) : (Tr.node u l r).put [] v = .node v l r := rfl
@[simp] theorem Tr.put_r (u : AV) (l r : Tr) (p : List Bool) (v : AV) : (Tr.node u l r).put (true :: p) v = .node u l (r.put p v) := rfl
@[simp] theorem Tr.put_l (u : AV) (l r : Tr) (p : List Bool) (v : AV) : (Tr.node u l r).put (false :: p) v = .node u (l.put p v) r := rfl
@[simp] theorem tf_get (tr : Tr) (t : Nat) : tf tr t = tr.get (path t) := rfl
@[simp] theorem tf_upd' (tr : Tr) (t : Nat) (v : AV) : upd (tf tr) t v = tf (tr.put (path t) v) := tf_upd tr t v
@[simp] theorem tpick_nil (f : Nat → AV) : tpick [] f = .nil := rfl
@[simp] theorem tpick_cons (t : Nat) (l : List Nat) (f : Nat → AV) : tpick (t :: l) f = (tpick l f).put (path t) (f t) := rfl
def targs : List AV → Nat → Tr
  | [], _ => .nil
  | a :: l, k => (targs l (k + 1)).put (path k) a
@[simp] theorem targs_nil (k : Nat) : targs [] k = .nil := rfl
@[simp] theorem targs_cons (a : AV) (l : List AV) (k : Nat) : targs (a :: l) k = (targs l (k + 1)).put (path k) a := rfl
theorem tf_targs : ∀ (l : List AV) (k t : Nat), tf (targs l k) t = if t < k then .junk else l.getD (t - k) .junk
  | [], k, t => by simp [targs, tf]
  | a :: l, k, t => by
    have ih := tf_targs l (k + 1) t
    simp only [tf, targs, Tr.get_put] at ih ⊢
    by_cases h : t = k
    · subst h; simp
    · rw [if_neg fun e => h (path_inj e), ih]
      by_cases h2 : t < k
      · rw [if_pos h2, if_pos (by omega)]
      · rw [if_neg h2, if_neg (by omega)]
        obtain ⟨j, rfl⟩ : ∃ j, t = k + 1 + j := ⟨t - (k + 1), by omega⟩
        rw [show k + 1 + j - (k + 1) = j by omega, show k + 1 + j - k = j + 1 by omega]
        rfl
theorem argF_tf (l : List AV) : argF l = tf (targs l 0) := by
  funext t
  rw [tf_targs]
  simp [argF]
@[simp] theorem path_0 : path 0 = [] := by kernel_rfl
@[simp] theorem path_1 : path 1 = [true] := by kernel_rfl
@[simp] theorem path_2 : path 2 = [false] := by kernel_rfl
@[simp] theorem path_3 : path 3 = [true, true] := by kernel_rfl
@[simp] theorem path_4 : path 4 = [false, true] := by kernel_rfl
@[simp] theorem path_5 : path 5 = [true, false] := by kernel_rfl
@[simp] theorem path_6 : path 6 = [false, false] := by kernel_rfl
@[simp] theorem path_7 : path 7 = [true, true, true] := by kernel_rfl
@[simp] theorem path_8 : path 8 = [false, true, true] := by kernel_rfl
@[simp] theorem path_9 : path 9 = [true, false, true] := by kernel_rfl
@[simp] theorem path_10 : path 10 = [false, false, true] := by kernel_rfl
@[simp] theorem path_11 : path 11 = [true, true, false] := by kernel_rfl
@[simp] theorem path_12 : path 12 = [false, true, false] := by kernel_rfl
@[simp] theorem path_13 : path 13 = [true, false, false] := by kernel_rfl
@[simp] theorem path_14 : path 14 = [false, false, false] := by kernel_rfl
@[simp] theorem path_15 : path 15 = [true, true, true, true] := by kernel_rfl
@[simp] theorem path_16 : path 16 = [false, true, true, true] := by kernel_rfl
@[simp] theorem path_17 : path 17 = [true, false, true, true] := by kernel_rfl
@[simp] theorem path_18 : path 18 = [false, false, true, true] := by kernel_rfl
@[simp] theorem path_19 : path 19 = [true, true, false, true] := by kernel_rfl
@[simp] theorem path_20 : path 20 = [false, true, false, true] := by kernel_rfl
@[simp] theorem path_21 : path 21 = [true, false, false, true] := by kernel_rfl
@[simp] theorem path_22 : path 22 = [false, false, false, true] := by kernel_rfl
@[simp] theorem path_23 : path 23 = [true, true, true, false] := by kernel_rfl
@[simp] theorem path_24 : path 24 = [false, true, true, false] := by kernel_rfl
@[simp] theorem path_25 : path 25 = [true, false, true, false] := by kernel_rfl
@[simp] theorem path_26 : path 26 = [false, false, true, false] := by kernel_rfl
@[simp] theorem path_27 : path 27 = [true, true, false, false] := by kernel_rfl
@[simp] theorem path_28 : path 28 = [false, true, false, false] := by kernel_rfl
@[simp] theorem path_29 : path 29 = [true, false, false, false] := by kernel_rfl
@[simp] theorem path_30 : path 30 = [false, false, false, false] := by kernel_rfl
@[simp] theorem path_31 : path 31 = [true, true, true, true, true] := by kernel_rfl
@[simp] theorem path_32 : path 32 = [false, true, true, true, true] := by kernel_rfl
@[simp] theorem path_33 : path 33 = [true, false, true, true, true] := by kernel_rfl
@[simp] theorem path_34 : path 34 = [false, false, true, true, true] := by kernel_rfl
@[simp] theorem path_35 : path 35 = [true, true, false, true, true] := by kernel_rfl
@[simp] theorem path_36 : path 36 = [false, true, false, true, true] := by kernel_rfl
@[simp] theorem path_37 : path 37 = [true, false, false, true, true] := by kernel_rfl
@[simp] theorem path_38 : path 38 = [false, false, false, true, true] := by kernel_rfl
@[simp] theorem path_39 : path 39 = [true, true, true, false, true] := by kernel_rfl
@[simp] theorem path_40 : path 40 = [false, true, true, false, true] := by kernel_rfl
@[simp] theorem path_41 : path 41 = [true, false, true, false, true] := by kernel_rfl
@[simp] theorem path_42 : path 42 = [false, false, true, false, true] := by kernel_rfl
@[simp] theorem path_43 : path 43 = [true, true, false, false, true] := by kernel_rfl
@[simp] theorem path_44 : path 44 = [false, true, false, false, true] := by kernel_rfl
@[simp] theorem path_45 : path 45 = [true, false, false, false, true] := by kernel_rfl
@[simp] theorem path_46 : path 46 = [false, false, false, false, true] := by kernel_rfl
@[simp] theorem path_47 : path 47 = [true, true, true, true, false] := by kernel_rfl
@[simp] theorem path_48 : path 48 = [false, true, true, true, false] := by kernel_rfl
@[simp] theorem path_49 : path 49 = [true, false, true, true, false] := by kernel_rfl
@[simp] theorem path_50 : path 50 = [false, false, true, true, false] := by kernel_rfl
@[simp] theorem path_51 : path 51 = [true, true, false, true, false] := by kernel_rfl
@[simp] theorem path_52 : path 52 = [false, true, false, true, false] := by kernel_rfl
@[simp] theorem path_53 : path 53 = [true, false, false, true, false] := by kernel_rfl
@[simp] theorem path_54 : path 54 = [false, false, false, true, false] := by kernel_rfl
@[simp] theorem path_55 : path 55 = [true, true, true, false, false] := by kernel_rfl
@[simp] theorem path_56 : path 56 = [false, true, true, false, false] := by kernel_rfl
@[simp] theorem path_57 : path 57 = [true, false, true, false, false] := by kernel_rfl
@[simp] theorem path_58 : path 58 = [false, false, true, false, false] := by kernel_rfl
@[simp] theorem path_59 : path 59 = [true, true, false, false, false] := by kernel_rfl
@[simp] theorem path_60 : path 60 = [false, true, false, false, false] := by kernel_rfl
@[simp] theorem path_61 : path 61 = [true, false, false, false, false] := by kernel_rfl
@[simp] theorem path_62 : path 62 = [false, false, false, false, false] := by kernel_rfl
@[simp] theorem path_63 : path 63 = [true, true, true, true, true, true] := by kernel_rfl
@[simp] theorem path_64 : path 64 = [false, true, true, true, true, true] := by kernel_rfl
@[simp] theorem path_65 : path 65 = [true, false, true, true, true, true] := by kernel_rfl
@[simp] theorem path_66 : path 66 = [false, false, true, true, true, true] := by kernel_rfl
@[simp] theorem path_67 : path 67 = [true, true, false, true, true, true] := by kernel_rfl
@[simp] theorem path_68 : path 68 = [false, true, false, true, true, true] := by kernel_rfl
@[simp] theorem path_69 : path 69 = [true, false, false, true, true, true] := by kernel_rfl
@[simp] theorem path_70 : path 70 = [false, false, false, true, true, true] := by kernel_rfl
@[simp] theorem path_71 : path 71 = [true, true, true, false, true, true] := by kernel_rfl
@[simp] theorem path_72 : path 72 = [false, true, true, false, true, true] := by kernel_rfl
@[simp] theorem path_73 : path 73 = [true, false, true, false, true, true] := by kernel_rfl
@[simp] theorem path_74 : path 74 = [false, false, true, false, true, true] := by kernel_rfl
@[simp] theorem path_75 : path 75 = [true, true, false, false, true, true] := by kernel_rfl
@[simp] theorem path_76 : path 76 = [false, true, false, false, true, true] := by kernel_rfl
@[simp] theorem path_77 : path 77 = [true, false, false, false, true, true] := by kernel_rfl
@[simp] theorem path_78 : path 78 = [false, false, false, false, true, true] := by kernel_rfl
@[simp] theorem path_79 : path 79 = [true, true, true, true, false, true] := by kernel_rfl
@[simp] theorem path_80 : path 80 = [false, true, true, true, false, true] := by kernel_rfl
@[simp] theorem path_81 : path 81 = [true, false, true, true, false, true] := by kernel_rfl
@[simp] theorem path_82 : path 82 = [false, false, true, true, false, true] := by kernel_rfl
@[simp] theorem path_83 : path 83 = [true, true, false, true, false, true] := by kernel_rfl
@[simp] theorem path_84 : path 84 = [false, true, false, true, false, true] := by kernel_rfl
@[simp] theorem path_85 : path 85 = [true, false, false, true, false, true] := by kernel_rfl
@[simp] theorem path_86 : path 86 = [false, false, false, true, false, true] := by kernel_rfl
@[simp] theorem path_87 : path 87 = [true, true, true, false, false, true] := by kernel_rfl
@[simp] theorem path_88 : path 88 = [false, true, true, false, false, true] := by kernel_rfl
@[simp] theorem path_89 : path 89 = [true, false, true, false, false, true] := by kernel_rfl
@[simp] theorem path_90 : path 90 = [false, false, true, false, false, true] := by kernel_rfl
@[simp] theorem path_91 : path 91 = [true, true, false, false, false, true] := by kernel_rfl
@[simp] theorem path_92 : path 92 = [false, true, false, false, false, true] := by kernel_rfl
@[simp] theorem path_93 : path 93 = [true, false, false, false, false, true] := by kernel_rfl
@[simp] theorem path_94 : path 94 = [false, false, false, false, false, true] := by kernel_rfl
@[simp] theorem path_95 : path 95 = [true, true, true, true, true, false] := by kernel_rfl
@[simp] theorem path_96 : path 96 = [false, true, true, true, true, false] := by kernel_rfl
@[simp] theorem path_97 : path 97 = [true, false, true, true, true, false] := by kernel_rfl
@[simp] theorem path_98 : path 98 = [false, false, true, true, true, false] := by kernel_rfl
@[simp] theorem path_99 : path 99 = [true, true, false, true, true, false] := by kernel_rfl
@[simp] theorem path_100 : path 100 = [false, true, false, true, true, false] := by kernel_rfl
@[simp] theorem path_101 : path 101 = [true, false, false, true, true, false] := by kernel_rfl
@[simp] theorem path_102 : path 102 = [false, false, false, true, true, false] := by kernel_rfl
@[simp] theorem path_103 : path 103 = [true, true, true, false, true, false] := by kernel_rfl
@[simp] theorem path_104 : path 104 = [false, true, true, false, true, false] := by kernel_rfl
@[simp] theorem path_105 : path 105 = [true, false, true, false, true, false] := by kernel_rfl
@[simp] theorem path_106 : path 106 = [false, false, true, false, true, false] := by kernel_rfl
@[simp] theorem path_107 : path 107 = [true, true, false, false, true, false] := by kernel_rfl
@[simp] theorem path_108 : path 108 = [false, true, false, false, true, false] := by kernel_rfl
@[simp] theorem path_109 : path 109 = [true, false, false, false, true, false] := by kernel_rfl
@[simp] theorem path_110 : path 110 = [false, false, false, false, true, false] := by kernel_rfl
@[simp] theorem path_111 : path 111 = [true, true, true, true, false, false] := by kernel_rfl
@[simp] theorem path_112 : path 112 = [false, true, true, true, false, false] := by kernel_rfl
@[simp] theorem path_113 : path 113 = [true, false, true, true, false, false] := by kernel_rfl
@[simp] theorem path_114 : path 114 = [false, false, true, true, false, false] := by kernel_rfl
@[simp] theorem path_115 : path 115 = [true, true, false, true, false, false] := by kernel_rfl
@[simp] theorem path_116 : path 116 = [false, true, false, true, false, false] := by kernel_rfl
@[simp] theorem path_117 : path 117 = [true, false, false, true, false, false] := by kernel_rfl
@[simp] theorem path_118 : path 118 = [false, false, false, true, false, false] := by kernel_rfl
@[simp] theorem path_119 : path 119 = [true, true, true, false, false, false] := by kernel_rfl
@[simp] theorem path_120 : path 120 = [false, true, true, false, false, false] := by kernel_rfl
@[simp] theorem path_121 : path 121 = [true, false, true, false, false, false] := by kernel_rfl
@[simp] theorem path_122 : path 122 = [false, false, true, false, false, false] := by kernel_rfl
@[simp] theorem path_123 : path 123 = [true, true, false, false, false, false] := by kernel_rfl
@[simp] theorem path_124 : path 124 = [false, true, false, false, false, false] := by kernel_rfl
@[simp] theorem path_125 : path 125 = [true, false, false, false, false, false] := by kernel_rfl
@[simp] theorem path_126 : path 126 = [false, false, false, false, false, false] := by kernel_rfl
@[simp] theorem path_127 : path 127 = [true, true, true, true, true, true, true] := by kernel_rfl
@[simp] theorem path_128 : path 128 = [false, true, true, true, true, true, true] := by kernel_rfl
@[simp] theorem path_129 : path 129 = [true, false, true, true, true, true, true] := by kernel_rfl
@[simp] theorem path_130 : path 130 = [false, false, true, true, true, true, true] := by kernel_rfl
@[simp] theorem path_131 : path 131 = [true, true, false, true, true, true, true] := by kernel_rfl
@[simp] theorem path_132 : path 132 = [false, true, false, true, true, true, true] := by kernel_rfl
@[simp] theorem path_133 : path 133 = [true, false, false, true, true, true, true] := by kernel_rfl
@[simp] theorem path_134 : path 134 = [false, false, false, true, true, true, true] := by kernel_rfl
@[simp] theorem path_135 : path 135 = [true, true, true, false, true, true, true] := by kernel_rfl
@[simp] theorem path_136 : path 136 = [false, true, true, false, true, true, true] := by kernel_rfl
@[simp] theorem path_137 : path 137 = [true, false, true, false, true, true, true] := by kernel_rfl
@[simp] theorem path_138 : path 138 = [false, false, true, false, true, true, true] := by kernel_rfl
@[simp] theorem path_139 : path 139 = [true, true, false, false, true, true, true] := by kernel_rfl
@[simp] theorem path_140 : path 140 = [false, true, false, false, true, true, true] := by kernel_rfl
@[simp] theorem path_141 : path 141 = [true, false, false, false, true, true, true] := by kernel_rfl
@[simp] theorem path_142 : path 142 = [false, false, false, false, true, true, true] := by kernel_rfl
@[simp] theorem path_143 : path 143 = [true, true, true, true, false, true, true] := by kernel_rfl
@[simp] theorem path_144 : path 144 = [false, true, true, true, false, true, true] := by kernel_rfl
@[simp] theorem path_145 : path 145 = [true, false, true, true, false, true, true] := by kernel_rfl
@[simp] theorem path_146 : path 146 = [false, false, true, true, false, true, true] := by kernel_rfl
@[simp] theorem path_147 : path 147 = [true, true, false, true, false, true, true] := by kernel_rfl
@[simp] theorem path_148 : path 148 = [false, true, false, true, false, true, true] := by kernel_rfl
@[simp] theorem path_149 : path 149 = [true, false, false, true, false, true, true] := by kernel_rfl
@[simp] theorem path_150 : path 150 = [false, false, false, true, false, true, true] := by kernel_rfl
@[simp] theorem path_151 : path 151 = [true, true, true, false, false, true, true] := by kernel_rfl
@[simp] theorem path_152 : path 152 = [false, true, true, false, false, true, true] := by kernel_rfl
@[simp] theorem path_153 : path 153 = [true, false, true, false, false, true, true] := by kernel_rfl
@[simp] theorem path_154 : path 154 = [false, false, true, false, false, true, true] := by kernel_rfl
@[simp] theorem path_155 : path 155 = [true, true, false, false, false, true, true] := by kernel_rfl
@[simp] theorem path_156 : path 156 = [false, true, false, false, false, true, true] := by kernel_rfl
@[simp] theorem path_157 : path 157 = [true, false, false, false, false, true, true] := by kernel_rfl
@[simp] theorem path_158 : path 158 = [false, false, false, false, false, true, true] := by kernel_rfl
@[simp] theorem path_159 : path 159 = [true, true, true, true, true, false, true] := by kernel_rfl
@[simp] theorem path_160 : path 160 = [false, true, true, true, true, false, true] := by kernel_rfl
@[simp] theorem path_161 : path 161 = [true, false, true, true, true, false, true] := by kernel_rfl
@[simp] theorem path_162 : path 162 = [false, false, true, true, true, false, true] := by kernel_rfl
@[simp] theorem path_163 : path 163 = [true, true, false, true, true, false, true] := by kernel_rfl
@[simp] theorem path_164 : path 164 = [false, true, false, true, true, false, true] := by kernel_rfl
@[simp] theorem path_165 : path 165 = [true, false, false, true, true, false, true] := by kernel_rfl
@[simp] theorem path_166 : path 166 = [false, false, false, true, true, false, true] := by kernel_rfl
@[simp] theorem path_167 : path 167 = [true, true, true, false, true, false, true] := by kernel_rfl
@[simp] theorem path_168 : path 168 = [false, true, true, false, true, false, true] := by kernel_rfl
@[simp] theorem path_169 : path 169 = [true, false, true, false, true, false, true] := by kernel_rfl
@[simp] theorem path_170 : path 170 = [false, false, true, false, true, false, true] := by kernel_rfl
@[simp] theorem path_171 : path 171 = [true, true, false, false, true, false, true] := by kernel_rfl
@[simp] theorem path_172 : path 172 = [false, true, false, false, true, false, true] := by kernel_rfl
@[simp] theorem path_173 : path 173 = [true, false, false, false, true, false, true] := by kernel_rfl
@[simp] theorem path_174 : path 174 = [false, false, false, false, true, false, true] := by kernel_rfl
@[simp] theorem path_175 : path 175 = [true, true, true, true, false, false, true] := by kernel_rfl
@[simp] theorem path_176 : path 176 = [false, true, true, true, false, false, true] := by kernel_rfl
@[simp] theorem path_177 : path 177 = [true, false, true, true, false, false, true] := by kernel_rfl
@[simp] theorem path_178 : path 178 = [false, false, true, true, false, false, true] := by kernel_rfl
@[simp] theorem path_179 : path 179 = [true, true, false, true, false, false, true] := by kernel_rfl
@[simp] theorem path_180 : path 180 = [false, true, false, true, false, false, true] := by kernel_rfl
@[simp] theorem path_181 : path 181 = [true, false, false, true, false, false, true] := by kernel_rfl
@[simp] theorem path_182 : path 182 = [false, false, false, true, false, false, true] := by kernel_rfl
@[simp] theorem path_183 : path 183 = [true, true, true, false, false, false, true] := by kernel_rfl
@[simp] theorem path_184 : path 184 = [false, true, true, false, false, false, true] := by kernel_rfl
@[simp] theorem path_185 : path 185 = [true, false, true, false, false, false, true] := by kernel_rfl
@[simp] theorem path_186 : path 186 = [false, false, true, false, false, false, true] := by kernel_rfl
@[simp] theorem path_187 : path 187 = [true, true, false, false, false, false, true] := by kernel_rfl
@[simp] theorem path_188 : path 188 = [false, true, false, false, false, false, true] := by kernel_rfl
@[simp] theorem path_189 : path 189 = [true, false, false, false, false, false, true] := by kernel_rfl
@[simp] theorem path_190 : path 190 = [false, false, false, false, false, false, true] := by kernel_rfl
@[simp] theorem path_191 : path 191 = [true, true, true, true, true, true, false] := by kernel_rfl
@[simp] theorem path_192 : path 192 = [false, true, true, true, true, true, false] := by kernel_rfl
@[simp] theorem path_193 : path 193 = [true, false, true, true, true, true, false] := by kernel_rfl
@[simp] theorem path_194 : path 194 = [false, false, true, true, true, true, false] := by kernel_rfl
@[simp] theorem path_195 : path 195 = [true, true, false, true, true, true, false] := by kernel_rfl
@[simp] theorem path_196 : path 196 = [false, true, false, true, true, true, false] := by kernel_rfl
@[simp] theorem path_197 : path 197 = [true, false, false, true, true, true, false] := by kernel_rfl
@[simp] theorem path_198 : path 198 = [false, false, false, true, true, true, false] := by kernel_rfl
@[simp] theorem path_199 : path 199 = [true, true, true, false, true, true, false] := by kernel_rfl
@[simp] theorem path_200 : path 200 = [false, true, true, false, true, true, false] := by kernel_rfl
@[simp] theorem path_201 : path 201 = [true, false, true, false, true, true, false] := by kernel_rfl
@[simp] theorem path_202 : path 202 = [false, false, true, false, true, true, false] := by kernel_rfl
@[simp] theorem path_203 : path 203 = [true, true, false, false, true, true, false] := by kernel_rfl
@[simp] theorem path_204 : path 204 = [false, true, false, false, true, true, false] := by kernel_rfl
@[simp] theorem path_205 : path 205 = [true, false, false, false, true, true, false] := by kernel_rfl
@[simp] theorem path_206 : path 206 = [false, false, false, false, true, true, false] := by kernel_rfl
@[simp] theorem path_207 : path 207 = [true, true, true, true, false, true, false] := by kernel_rfl
@[simp] theorem path_208 : path 208 = [false, true, true, true, false, true, false] := by kernel_rfl
@[simp] theorem path_209 : path 209 = [true, false, true, true, false, true, false] := by kernel_rfl
@[simp] theorem path_210 : path 210 = [false, false, true, true, false, true, false] := by kernel_rfl
@[simp] theorem path_211 : path 211 = [true, true, false, true, false, true, false] := by kernel_rfl
@[simp] theorem path_212 : path 212 = [false, true, false, true, false, true, false] := by kernel_rfl
@[simp] theorem path_213 : path 213 = [true, false, false, true, false, true, false] := by kernel_rfl
@[simp] theorem path_214 : path 214 = [false, false, false, true, false, true, false] := by kernel_rfl
@[simp] theorem path_215 : path 215 = [true, true, true, false, false, true, false] := by kernel_rfl
@[simp] theorem path_216 : path 216 = [false, true, true, false, false, true, false] := by kernel_rfl
@[simp] theorem path_217 : path 217 = [true, false, true, false, false, true, false] := by kernel_rfl
@[simp] theorem path_218 : path 218 = [false, false, true, false, false, true, false] := by kernel_rfl
@[simp] theorem path_219 : path 219 = [true, true, false, false, false, true, false] := by kernel_rfl
@[simp] theorem path_220 : path 220 = [false, true, false, false, false, true, false] := by kernel_rfl
@[simp] theorem path_221 : path 221 = [true, false, false, false, false, true, false] := by kernel_rfl
@[simp] theorem path_222 : path 222 = [false, false, false, false, false, true, false] := by kernel_rfl
@[simp] theorem path_223 : path 223 = [true, true, true, true, true, false, false] := by kernel_rfl
@[simp] theorem path_224 : path 224 = [false, true, true, true, true, false, false] := by kernel_rfl
@[simp] theorem path_225 : path 225 = [true, false, true, true, true, false, false] := by kernel_rfl
@[simp] theorem path_226 : path 226 = [false, false, true, true, true, false, false] := by kernel_rfl
@[simp] theorem path_227 : path 227 = [true, true, false, true, true, false, false] := by kernel_rfl
@[simp] theorem path_228 : path 228 = [false, true, false, true, true, false, false] := by kernel_rfl
@[simp] theorem path_229 : path 229 = [true, false, false, true, true, false, false] := by kernel_rfl
@[simp] theorem path_230 : path 230 = [false, false, false, true, true, false, false] := by kernel_rfl
@[simp] theorem path_231 : path 231 = [true, true, true, false, true, false, false] := by kernel_rfl
@[simp] theorem path_232 : path 232 = [false, true, true, false, true, false, false] := by kernel_rfl
@[simp] theorem path_233 : path 233 = [true, false, true, false, true, false, false] := by kernel_rfl
@[simp] theorem path_234 : path 234 = [false, false, true, false, true, false, false] := by kernel_rfl
@[simp] theorem path_235 : path 235 = [true, true, false, false, true, false, false] := by kernel_rfl
@[simp] theorem path_236 : path 236 = [false, true, false, false, true, false, false] := by kernel_rfl
@[simp] theorem path_237 : path 237 = [true, false, false, false, true, false, false] := by kernel_rfl
@[simp] theorem path_238 : path 238 = [false, false, false, false, true, false, false] := by kernel_rfl
@[simp] theorem path_239 : path 239 = [true, true, true, true, false, false, false] := by kernel_rfl
@[simp] theorem path_240 : path 240 = [false, true, true, true, false, false, false] := by kernel_rfl
@[simp] theorem path_241 : path 241 = [true, false, true, true, false, false, false] := by kernel_rfl
@[simp] theorem path_242 : path 242 = [false, false, true, true, false, false, false] := by kernel_rfl
@[simp] theorem path_243 : path 243 = [true, true, false, true, false, false, false] := by kernel_rfl
@[simp] theorem path_244 : path 244 = [false, true, false, true, false, false, false] := by kernel_rfl
@[simp] theorem path_245 : path 245 = [true, false, false, true, false, false, false] := by kernel_rfl
@[simp] theorem path_246 : path 246 = [false, false, false, true, false, false, false] := by kernel_rfl
@[simp] theorem path_247 : path 247 = [true, true, true, false, false, false, false] := by kernel_rfl
@[simp] theorem path_248 : path 248 = [false, true, true, false, false, false, false] := by kernel_rfl
@[simp] theorem path_249 : path 249 = [true, false, true, false, false, false, false] := by kernel_rfl
@[simp] theorem path_250 : path 250 = [false, false, true, false, false, false, false] := by kernel_rfl
@[simp] theorem path_251 : path 251 = [true, true, false, false, false, false, false] := by kernel_rfl
@[simp] theorem path_252 : path 252 = [false, true, false, false, false, false, false] := by kernel_rfl
@[simp] theorem path_253 : path 253 = [true, false, false, false, false, false, false] := by kernel_rfl
@[simp] theorem path_254 : path 254 = [false, false, false, false, false, false, false] := by kernel_rfl
@[simp] theorem path_255 : path 255 = [true, true, true, true, true, true, true, true] := by kernel_rfl

/-! ### The condition of a walk -/
abbrev Kn := AExit → (Nat → AV) → Store → Prop
def wpA (E : Env) (n N : Nat) (ow : List Nat) : ACode → (Nat → AV) → Store → Kn → Prop
  | .skip, f, σ, Q => Q .normal f σ
  | .reg _ ops, f, σ, Q => aops E ow N ops.toArray ops f σ (Q .normal)
  | .drw _ ops an, f, σ, Q => aopsE E ow N ops.toArray (Q .normal) an ops 0 0 [] [] f σ
  | .seq lv a b, f, σ, Q => wpA E n N ow a f σ fun e f σ => match e with
    | .normal => wpA E n N ow b (tf (tpick lv f)) σ Q
    | e => Q e f σ
  | .cond c a b, f, σ, Q => match aeval E.G f c with
    | .c (.bool t) => (t = true → wpA E n N ow a f σ Q) ∧ (t = false → wpA E n N ow b f σ Q)
    | _ => False
  | .block id c, f, σ, Q => wpA E n N ow c f σ (ABlock id Q)
  | .loop lv c, f, σ, Q => AW E n N (.loop c.er) f σ Q
  | .exit id, f, σ, Q => Q (.exit id) f σ
  | .scope c, f, σ, Q => wpA E n N ow c f σ (ANoGoto Q)
  | .label _, f, σ, Q => Q .normal f σ
  | .ret, f, σ, Q => Q .ret f σ
  | .other c, f, σ, Q => AW E n N c f σ Q

section
variable {E : Env} {n N : Nat} {ow : List Nat}

theorem wpA_ok (hm : E.P.follows .mixedOrders = true) : ∀ (c : ACode) (f : Nat → AV) (σ : Store) (Q : Kn), drawsOk c = true → wpA E n N ow c f σ Q → AW E n N c.er f σ Q := by
  intro c
  induction c with
  | skip => intro f σ Q _ h; exact AW.skip h
  | reg id ops => intro f σ Q _ h; exact AW.region h
  | drw id ops an => intro f σ Q hd h; exact AW.drawE ow an hm hd h
  | seq lv a b ha hb =>
    intro f σ Q hd h
    simp only [drawsOk, Bool.and_eq_true] at hd
    refine AW.seq (AW.mono (ha f σ _ hd.1 h) ?_)
    intro e f σ h
    cases e <;> first | exact h | skip
    exact AW.keepT lv (hb _ _ _ hd.2 h)
  | cond c a b ha hb =>
    intro f σ Q hd h
    simp only [drawsOk, Bool.and_eq_true] at hd
    simp only [wpA] at h
    split at h
    · rename_i t ht
      exact AW.cond ht (fun e => ha _ _ _ hd.1 (h.1 e)) (fun e => hb _ _ _ hd.2 (h.2 e))
    · exact h.elim
  | block id c hc => intro f σ Q hd h; exact AW.block (hc _ _ _ hd h)
  | loop lv c hc => intro f σ Q hd h; exact h
  | exit id => intro f σ Q _ h; exact AW.exit h
  | scope c hc => intro f σ Q hd h; exact AW.scope (hc _ _ _ hd h)
  | label l => intro f σ Q _ h; exact AW.label h
  | ret => intro f σ Q _ h; exact AW.ret h
  | other c => intro f σ Q _ h; exact h

/-! #### As the simplifier opens it -/
def thenK (E : Env) (n N : Nat) (ow lv : List Nat) (b : ACode) (Q : Kn) : Kn := fun e f σ => match e with
  | .normal => wpA E n N ow b (tf (tpick lv f)) σ Q
  | e => Q e f σ
def loopW (E : Env) (n N : Nat) (ow lv : List Nat) (c : ACode) (f : Nat → AV) (σ : Store) (Q : Kn) : Prop := AW E n N (.loop c.er) f σ Q
def condW (v : AV) (A B : Prop) : Prop := match v with
  | .c (.bool t) => (t = true → A) ∧ (t = false → B)
  | _ => False
@[congr] theorem condW_congr {v v' : AV} {A B : Prop} (h : v = v') : condW v A B = condW v' A B := by rw [h]
@[simp ↓ high] theorem condW_true (A B : Prop) : condW (.c (.bool true)) A B = A := by simp [condW]
@[simp ↓ high] theorem condW_false (A B : Prop) : condW (.c (.bool false)) A B = B := by simp [condW]
@[simp ↓] theorem condW_bool (t : Bool) (A B : Prop) : condW (.c (.bool t)) A B = ((t = true → A) ∧ (t = false → B)) := (rfl)
@[simp ↓] theorem wpA_skip (f : Nat → AV) (σ : Store) (Q : Kn) : wpA E n N ow .skip f σ Q = Q .normal f σ := (rfl)
@[simp ↓] theorem wpA_exit (i : Nat) (f : Nat → AV) (σ : Store) (Q : Kn) : wpA E n N ow (.exit i) f σ Q = Q (.exit i) f σ := (rfl)
@[simp ↓] theorem wpA_ret (f : Nat → AV) (σ : Store) (Q : Kn) : wpA E n N ow .ret f σ Q = Q .ret f σ := (rfl)
@[simp ↓] theorem wpA_label (l : Nat) (f : Nat → AV) (σ : Store) (Q : Kn) : wpA E n N ow (.label l) f σ Q = Q .normal f σ := (rfl)
@[simp ↓] theorem wpA_reg (id : Nat) (ops : List Oper) (f : Nat → AV) (σ : Store) (Q : Kn) : wpA E n N ow (.reg id ops) f σ Q = aops E ow N ops.toArray ops f σ (Q .normal) := (rfl)
@[simp ↓] theorem wpA_drw (id : Nat) (ops : List Oper) (an : List An) (f : Nat → AV) (σ : Store) (Q : Kn) : wpA E n N ow (.drw id ops an) f σ Q = aopsE E ow N ops.toArray (Q .normal) an ops 0 0 [] [] f σ := (rfl)
@[simp ↓] theorem wpA_seq (lv : List Nat) (a b : ACode) (f : Nat → AV) (σ : Store) (Q : Kn) : wpA E n N ow (.seq lv a b) f σ Q = wpA E n N ow a f σ (thenK E n N ow lv b Q) := (rfl)
@[simp ↓] theorem wpA_cond (c : Operand) (a b : ACode) (f : Nat → AV) (σ : Store) (Q : Kn) : wpA E n N ow (.cond c a b) f σ Q = condW (aeval E.G f c) (wpA E n N ow a f σ Q) (wpA E n N ow b f σ Q) := (rfl)
@[simp ↓] theorem wpA_block (id : Nat) (c : ACode) (f : Nat → AV) (σ : Store) (Q : Kn) : wpA E n N ow (.block id c) f σ Q = wpA E n N ow c f σ (ABlock id Q) := (rfl)
@[simp ↓] theorem wpA_loop (lv : List Nat) (c : ACode) (f : Nat → AV) (σ : Store) (Q : Kn) : wpA E n N ow (.loop lv c) f σ Q = loopW E n N ow lv c f σ Q := (rfl)
@[simp ↓] theorem wpA_scope (c : ACode) (f : Nat → AV) (σ : Store) (Q : Kn) : wpA E n N ow (.scope c) f σ Q = wpA E n N ow c f σ (ANoGoto Q) := (rfl)
@[simp ↓] theorem ANoGoto_normal (Q : Kn) (f : Nat → AV) (σ : Store) : ANoGoto Q .normal f σ = Q .normal f σ := (rfl)
@[simp ↓] theorem ANoGoto_ret (Q : Kn) (f : Nat → AV) (σ : Store) : ANoGoto Q .ret f σ = Q .ret f σ := (rfl)
@[simp ↓] theorem ANoGoto_exit (Q : Kn) (i : Nat) (f : Nat → AV) (σ : Store) : ANoGoto Q (.exit i) f σ = Q (.exit i) f σ := (rfl)
@[simp ↓] theorem thenK_normal (lv : List Nat) (b : ACode) (Q : Kn) (f : Nat → AV) (σ : Store) : thenK E n N ow lv b Q .normal f σ = wpA E n N ow b (tf (tpick lv f)) σ Q := (rfl)
@[simp ↓] theorem thenK_exit (lv : List Nat) (b : ACode) (Q : Kn) (i : Nat) (f : Nat → AV) (σ : Store) : thenK E n N ow lv b Q (.exit i) f σ = Q (.exit i) f σ := (rfl)
@[simp ↓] theorem thenK_ret (lv : List Nat) (b : ACode) (Q : Kn) (f : Nat → AV) (σ : Store) : thenK E n N ow lv b Q .ret f σ = Q .ret f σ := (rfl)
end
end Go.AW
