/- What the simplifier knows of the conditions of operations, in the form that leaves plain conditions. No condition. -/
import Derived.Test.YtkbklfodaemkoaaDoorS2
set_option linter.unusedVariables false
set_option linter.unusedSimpArgs false
set_option linter.unnecessarySimpa false
namespace Go.AW
open Go

@[simp] theorem isNil_tmp (t : Nat) : isNil (.tmp t) = false := rfl
@[simp] theorem isNil_global (g : Nat) : isNil (.global g) = false := rfl
@[simp] theorem isNil_func (k : Nat) : isNil (.func k) = false := rfl
@[simp] theorem isNil_nil : isNil (.const (.slice none 0 0)) = true := rfl
@[simp] theorem isNil_bool (b : Bool) : isNil (.const (.bool b)) = false := rfl
@[simp] theorem isNil_int (k : IntKind) (b : Int) : isNil (.const (.int k b)) = false := rfl
@[simp] theorem isNil_string (s : ByteArray) : isNil (.const (.string s)) = false := rfl
@[simp] theorem isNil_pointer (a : Option Addr) : isNil (.const (.pointer a)) = false := rfl
@[simp] theorem isNil_map (a : Option Nat) : isNil (.const (.map a)) = false := rfl
@[simp] theorem isNil_agg (a : Array Value) : isNil (.const (.agg a)) = false := rfl
attribute [simp] AV.rd argV ownN
section
variable {E : Env} {σ : Store} {K : AV → Store → Prop} (g : Operand → AV)
@[simp ↓] theorem opX_range (t : TypeId) (x : Operand) : opX E (.range t x) ((Op.range t x).operands.toList.map g) σ K = aRange E t (g x) σ K := (rfl)
@[simp ↓] theorem opX_next (x : Operand) (b : Bool) : opX E (.next x b) ((Op.next x b).operands.toList.map g) σ K = aNext (g x) b σ K := (rfl)
@[simp ↓] theorem opX_lookup (t : TypeId) (x k : Operand) (b : Bool) : opX E (.lookup t x k b) ((Op.lookup t x k b).operands.toList.map g) σ K = aLook E t (g x) (g k) b σ K := (rfl)
@[simp ↓] theorem opX_mapUpdate (t : TypeId) (m k x : Operand) : opX E (.mapUpdate t m k x) ((Op.mapUpdate t m k x).operands.toList.map g) σ K = aMapPut E t (g m) (g k) (g x) σ K := (rfl)
@[simp ↓] theorem opX_insert (t : TypeId) (m k x : Operand) : opX E (.insert t m k x) ((Op.insert t m k x).operands.toList.map g) σ K = aMapPut E t (g m) (g k) (g x) σ K := (rfl)
@[simp ↓] theorem opX_makeMap (t : TypeId) : opX E (.makeMap t none) ((Op.makeMap t none).operands.toList.map g) σ K = K (.mp σ.next) (σ.alloc (.map [] [] 0)) := (rfl)
@[simp ↓] theorem opX_mapEntry (t : TypeId) (m k : Operand) : opX E (.mapEntry t m k) ((Op.mapEntry t m k).operands.toList.map g) σ K = aMapEntry E t (g m) (g k) σ K := (rfl)
@[simp ↓] theorem opX_entryStore (t : TypeId) (m s x : Operand) : opX E (.entryStore t m s x) ((Op.entryStore t m s x).operands.toList.map g) σ K = aEntryStore (g m) (g s) (g x) σ K := (rfl)
@[simp ↓] theorem opX_typeAssert (x : Operand) (xt t : TypeId) (b : Bool) : opX E (.typeAssert x xt t b) ((Op.typeAssert x xt t b).operands.toList.map g) σ K = aAssert E (g x) t b (at1 K σ) := (rfl)
end
section
variable {E : Env} (own : Nat) (s d : TypeId) (σ : Store) (K : AV → Store → Prop)
@[simp] theorem aConv2_c (v : Value) : aConv2 E own s d (.c v) σ K = aConv E own s d (.c v) σ K := (rfl)
@[simp] theorem aConv2_nl : aConv2 E own s d .nl σ K = aConv E own s d .nl σ K := (rfl)
@[simp] theorem aConv2_ps (es : List AV) : aConv2 E own s d (.ps es) σ K = aConv E own s d (.ps es) σ K := (rfl)
@[simp] theorem aConv2_fs (l : List UInt8) : aConv2 E own s d (.fs l) σ K = aConv E own s d (.fs l) σ K := (rfl)
@[simp] theorem aConv2_rs (i g o n : Nat) : aConv2 E own s d (.rs i g o n) σ K = aConv E own s d (.rs i g o n) σ K := (rfl)
@[simp] theorem aConv2_rc (i g o n c : Nat) : aConv2 E own s d (.rc i g o n c) σ K = aConv E own s d (.rc i g o n c) σ K := (rfl)
@[simp] theorem aConv2_lg (i : Nat) (es : List AV) : aConv2 E own s d (.lg i es) σ K = if own = 2 then s = d ∧ (match tk E.P d with
      | .slc e => tk E.P e = .int .u8 ∧ tsz E.P e = 1 ∧ es ≠ [] ∧ σ.get i = some (.log e es.length) ∧ K (.lg i es) σ
      | _ => False) else aConv E own s d (.ps es) σ K := (rfl)
end
attribute [simp] TK.isArr aSliceA chunks
@[simp] theorem drop_next (σ : Store) (i : Nat) : (σ.drop i).next = σ.next := rfl
@[simp] theorem drop_get (σ : Store) (i j : Nat) : (σ.drop i).get j = if j = i then none else σ.get j := rfl
@[simp] theorem Below_drop {s σ : Store} {k : Nat} (h : s.next ≤ k) : Below s (σ.drop k) = Below s σ := by
  simp only [Below, drop_next, drop_get, eq_iff_iff]
  refine and_congr_right fun _ => forall_congr' fun i => imp_congr_right fun hi => ?_
  rw [if_neg (by omega)]
attribute [simp] aRange aNext aLook aMapPut aMapEntry aEntryStore aMapDel aAssert TK.isMap keyOk

section
variable {E : Env}
@[simp] theorem aAppend2_nl (own : Nat) (t u : TypeId) (x : AV) (σ : Store) (K : AV → Store → Prop) : aAppend2 E own t u .nl x σ K = if own = 1 then aAppend E t u .nl x σ K else aAppendL E t u .nl x σ K := (rfl)
@[simp] theorem aAppend2_lg (own : Nat) (t u : TypeId) (i : Nat) (es : List AV) (x : AV) (σ : Store) (K : AV → Store → Prop) : aAppend2 E own t u (.lg i es) x σ K = aAppendL E t u (.lg i es) x σ K := (rfl)
@[simp] theorem aAppendL_eq (t u : TypeId) (s x : AV) (σ : Store) (K : AV → Store → Prop) : aAppendL E t u s x σ K = ((tk E.P u = .str ∨ ∃ e, tk E.P u = .slc e) ∧ (match tk E.P t with
    | .slc e => tsz E.P e ≠ 0 ∧ (azero E.P e).ok = true ∧ tsz E.P e = (azero E.P e).cells.length ∧ (match aElems σ x with
      | some news => (∀ a ∈ news, a.cells.length = tsz E.P e) ∧ (match s with
        | .nl => news.length * tby E.P e ≤ 140737488355328 ∧ news.length ≤ maxLen ∧ (if news.isEmpty = true then K .nl σ else K (.lg σ.next news) (σ.alloc (.log e news.length)))
        | .lg i es => (match σ.get i with
          | some (.log T n) => T = e ∧ n = es.length ∧ (es.length + news.length) * tby E.P e ≤ 140737488355328 ∧ es.length + news.length ≤ maxLen ∧
              K (.lg i (es ++ news)) (σ.set i (.log e (es.length + news.length)))
          | _ => False)
        | _ => False)
      | none => False)
    | _ => False)) := by
  apply propext
  unfold aAppendL
  refine and_congr_right fun _ => ?_
  generalize tk E.P t = T
  cases T <;> try exact Iff.rfl
  refine and_congr_right fun _ => and_congr_right fun _ => and_congr_right fun _ => ?_
  generalize aElems σ x = ns
  cases ns <;> try exact Iff.rfl
  rename_i news
  refine and_congr_right fun _ => ?_
  cases s <;> try exact Iff.rfl
  refine and_congr_right fun _ => and_congr_right fun _ => ?_
  cases news <;> simp
@[simp] theorem set_alloc_lt {σ : Store} {i : Nat} (o o' : AObj) (h : i < σ.next) : (σ.alloc o).set i o' = (σ.set i o').alloc o := by
  unfold Store.set Store.alloc
  simp only [Store.mk.injEq, and_true]
  funext j
  by_cases h1 : j = σ.next
  · subst h1; simp [show ¬ σ.next = i by omega]
  · simp [h1]
end
@[simp] theorem set_comm {σ : Store} {i j : Nat} (o o' : AObj) (h : j < i) : (σ.set i o).set j o' = (σ.set j o').set i o := by
  unfold Store.set
  simp only [Store.mk.injEq, and_true]
  funext k
  by_cases h1 : k = j
  · subst h1; simp [show ¬ k = i by omega]
  · simp [h1]
@[simp] theorem alloc_set' {σ : Store} {k : Nat} (o o' : AObj) (h : k = σ.next) : (σ.alloc o).set k o' = σ.alloc o' := by subst h; exact alloc_set σ o o'
@[simp] theorem Below_alloc {s σ : Store} (o : AObj) (h : s.next ≤ σ.next) : Below s (σ.alloc o) = Below s σ := by
  simp only [Below, alloc_next, alloc_get, eq_iff_iff]
  constructor
  · rintro ⟨h1, h2⟩
    refine ⟨h, fun i hi => ?_⟩
    have := h2 i hi
    rwa [if_neg (by omega)] at this
  · rintro ⟨h1, h2⟩
    refine ⟨by omega, fun i hi => ?_⟩
    rw [if_neg (by omega)]; exact h2 i hi
@[simp] theorem Below_set {s σ : Store} {k : Nat} (o : AObj) (h : s.next ≤ k) : Below s (σ.set k o) = Below s σ := by
  simp only [Below, set_next, set_get, eq_iff_iff]
  refine and_congr_right fun _ => forall_congr' fun i => imp_congr_right fun hi => ?_
  rw [if_neg (by omega)]
@[simp] theorem storeBel_log {σ : Store} (T : TypeId) (n : Nat) (h : StoreBel σ) : StoreBel (σ.alloc (.log T n)) = True := eq_true (h.alloc_log T n)
@[simp] theorem storeBel_arr {σ : Store} (T : TypeId) (g : Nat) (es : List AV) (h : StoreBel σ) (hes : ∀ e ∈ es, ∀ x ∈ e.cells, Bel (σ.next + 1) x) : StoreBel (σ.alloc (.arr T g es)) = True := eq_true (h.alloc_arr hes)
theorem ObjBel.mono {m m' : Nat} {o : AObj} (h : ObjBel m o) (hm : m ≤ m') : ObjBel m' o := by
  cases o with
  | arr T g es => exact fun e he x hx => (h e he x hx).mono hm
  | map ents born clock => exact fun e he => (h e he).mono hm
  | mi i a b c => exact Nat.lt_of_lt_of_le h hm
  | log T n => trivial
  | lp b L => trivial
  | it o => trivial
theorem StoreBel.alloc_obj {σ : Store} (h : StoreBel σ) {o : AObj} (ho : ObjBel (σ.next + 1) o) : StoreBel (σ.alloc o) := by
  intro i o' ho'
  simp only [alloc_get] at ho'
  split at ho'
  · rename_i e; subst e; cases ho'; exact ⟨by simp, ho⟩
  · obtain ⟨h1, h2⟩ := h i o' ho'
    exact ⟨by simp; omega, h2.mono (by simp)⟩
theorem StoreBel.set_obj {σ : Store} (h : StoreBel σ) {i : Nat} {o : AObj} (hi : i < σ.next) (ho : ObjBel σ.next o) : StoreBel (σ.set i o) := by
  intro j o' ho'
  simp only [set_get] at ho'
  split at ho'
  · rename_i e; subst e; cases ho'; exact ⟨by simpa using hi, ho⟩
  · exact h j o' ho'
@[simp] theorem storeBel_it {σ : Store} (o : Obj) (h : StoreBel σ) : StoreBel (σ.alloc (.it o)) = True := eq_true (h.alloc_obj trivial)
@[simp] theorem storeBel_mi {σ : Store} (i a c : Nat) (b : List Nat) (h : StoreBel σ) (hi : i < σ.next + 1) : StoreBel (σ.alloc (.mi i a b c)) = True := eq_true (h.alloc_obj hi)
@[simp] theorem storeBel_map {σ : Store} (ents : List (Value × AV)) (b : List Nat) (c : Nat) (h : StoreBel σ) (hi : ∀ en ∈ ents, Bel (σ.next + 1) en.2) : StoreBel (σ.alloc (.map ents b c)) = True := eq_true (h.alloc_obj hi)
@[simp] theorem forall_take_map {α β : Type} {f : α → β} {l : List α} {i : Nat} {p : β → Prop} : (∀ a, a ∈ List.take i (List.map f l) → p a) ↔ ∀ x, x ∈ List.take i l → p (f x) := by
  rw [← List.map_take]
  constructor
  · intro h x hx
    exact h _ (List.mem_map_of_mem hx)
  · intro h a ha
    obtain ⟨x, hx, rfl⟩ := List.mem_map.1 ha
    exact h x hx
@[simp] theorem drop_mid {α β : Type} (f : α → β) (l : List α) (x : β) (r : List β) : List.drop (l.length + 1) (List.map f l ++ x :: r) = r := by
  rw [show List.map f l ++ x :: r = (List.map f l ++ [x]) ++ r by simp, List.drop_left' (by simp)]
@[simp] theorem take_mid {α β γ : Type} (f : α → β) (g : γ → β) (l : List α) (m : List γ) (r : List β) : List.take (l.length + m.length) (List.map f l ++ (List.map g m ++ r)) = List.map f l ++ List.map g m := by
  rw [← List.append_assoc, List.take_left' (by simp)]
@[simp] theorem take_mid2 {α β γ : Type} (f : α → β) (g : γ → β) (l : List α) (m : List γ) : List.take (l.length + m.length) (List.map f l ++ List.map g m) = List.map f l ++ List.map g m := List.take_of_length_le (by simp)
theorem take_snoc {α β : Type} {f : α → β} {l : List α} {i : Nat} {a : α} (h : l[i]? = some a) : List.take i (List.map f l) ++ [f a] = List.take (i + 1) (List.map f l) := by
  rw [List.take_add_one, List.getElem?_map, h]; rfl
theorem take_snoc' {α : Type} {l : List α} {i : Nat} {a : α} (h : l[i]? = some a) : List.take i l ++ [a] = List.take (i + 1) l := by
  rw [List.take_add_one, h]; rfl
@[simp] theorem add_lit1 (a : Nat) : a + 1 + 1 = a + 2 := rfl
@[simp] theorem add_lit2 (a : Nat) : a + 2 + 1 = a + 3 := rfl
@[simp] theorem add_lit3 (a : Nat) : a + 3 + 1 = a + 4 := rfl
@[simp] theorem add_lit4 (a : Nat) : a + 4 + 1 = a + 5 := rfl
@[simp] theorem add_lit5 (a : Nat) : a + 5 + 1 = a + 6 := rfl
@[simp] theorem add_lit6 (a : Nat) : a + 6 + 1 = a + 7 := rfl
@[simp] theorem add_lit7 (a : Nat) : a + 7 + 1 = a + 8 := rfl
@[simp] theorem add_lit8 (a : Nat) : a + 8 + 1 = a + 9 := rfl
@[simp] theorem add_lit9 (a : Nat) : a + 9 + 1 = a + 10 := rfl
@[simp] theorem add_lit10 (a : Nat) : a + 10 + 1 = a + 11 := rfl
@[simp] theorem add_lit11 (a : Nat) : a + 11 + 1 = a + 12 := rfl
@[simp] theorem add_lit12 (a : Nat) : a + 12 + 1 = a + 13 := rfl
@[simp] theorem add_lit13 (a : Nat) : a + 13 + 1 = a + 14 := rfl
@[simp] theorem add_lit14 (a : Nat) : a + 14 + 1 = a + 15 := rfl
@[simp] theorem add_lit15 (a : Nat) : a + 15 + 1 = a + 16 := rfl
@[simp] theorem add_lit16 (a : Nat) : a + 16 + 1 = a + 17 := rfl
@[simp] theorem add_lit17 (a : Nat) : a + 17 + 1 = a + 18 := rfl
@[simp] theorem add_lit18 (a : Nat) : a + 18 + 1 = a + 19 := rfl
@[simp] theorem add_lit19 (a : Nat) : a + 19 + 1 = a + 20 := rfl
@[simp] theorem add_lit20 (a : Nat) : a + 20 + 1 = a + 21 := rfl
@[simp] theorem add_lit21 (a : Nat) : a + 21 + 1 = a + 22 := rfl
@[simp] theorem add_lit22 (a : Nat) : a + 22 + 1 = a + 23 := rfl
@[simp] theorem add_lit23 (a : Nat) : a + 23 + 1 = a + 24 := rfl
theorem wrap_succ {i n : Nat} (h : i < n) (hn : n ≤ 9223372036854775807) : IntKind.i64.wrap ((i : Int) + 1) = (i : Int) + 1 := wrap64_id (by omega) (by omega)
@[simp high] theorem frzL_map_byteV (l : List UInt8) : frzL (l.map byteV) = l.map byteV := by rw [frzL_map]; exact List.map_congr_left fun x _ => frz_c _
@[simp high] theorem frzL_map_str (l : List (List UInt8)) : frzL (l.map str) = l.map str := by rw [frzL_map]; exact List.map_congr_left fun x _ => frz_c _
@[simp] theorem frzL_take (n : Nat) (l : List AV) : frzL (l.take n) = (frzL l).take n := by simp [frzL_eq]
@[simp] theorem frzL_drop (n : Nat) (l : List AV) : frzL (l.drop n) = (frzL l).drop n := by simp [frzL_eq]
@[simp] theorem frzL_length (l : List AV) : (frzL l).length = l.length := by simp [frzL_eq]
@[simp] theorem maxLen_eq : maxLen = 9223372036854775807 := (rfl)

/-! ### Operations that come up only if .. -/
/-- What is known of the guard's variable decides; where it is not known, both ways are gone, each with what it says. -/
def guardW (v : AV) (want : Bool) (T F : AV → Prop) : Prop := match v with
  | .c (.bool b) => (b = true → if want = true then T (.c (.bool true)) else F (.c (.bool true))) ∧ (b = false → if want = true then F (.c (.bool false)) else T (.c (.bool false)))
  | .tup l => F (.tup l)
  | _ => False
@[congr] theorem guardW_congr {v v' : AV} {want : Bool} {T F : AV → Prop} (h : v = v') : guardW v want T F = guardW v' want T F := by rw [h]
@[simp ↓ high] theorem guardW_true (want : Bool) (T F : AV → Prop) : guardW (.c (.bool true)) want T F = if want = true then T (.c (.bool true)) else F (.c (.bool true)) := by simp [guardW]
@[simp ↓ high] theorem guardW_false (want : Bool) (T F : AV → Prop) : guardW (.c (.bool false)) want T F = if want = true then F (.c (.bool false)) else T (.c (.bool false)) := by simp [guardW]
@[simp ↓] theorem guardW_bool (b want : Bool) (T F : AV → Prop) : guardW (.c (.bool b)) want T F = ((b = true → if want = true then T (.c (.bool true)) else F (.c (.bool true))) ∧ (b = false → if want = true then F (.c (.bool false)) else T (.c (.bool false)))) := (rfl)
@[simp ↓] theorem guardW_tup (l : List AV) (want : Bool) (T F : AV → Prop) : guardW (.tup l) want T F = F (.tup l) := (rfl)
theorem upd_self (f : Nat → AV) (d : Nat) : upd f d (f d) = f := by
  funext t
  simp only [upd_apply]
  split
  · rename_i h; rw [h]
  · rfl
def dstAt (ops : Array Oper) (j : Nat) : Option Tmp := (ops[j]?).bind (·.dst)

section
variable {E : Env} {ow : List Nat} {N : Nat} {ops : Array Oper}
/-- The general form: T, F say what follows where the operation comes up, does not come up. -/
theorem guard_split {ops : Array Oper} {o : Oper} {f : Nat → AV} {T F : (Nat → AV) → Prop} {j : Nat} {want : Bool} {d : Tmp} (hg : o.guard = some (j, want)) (hd : dstAt ops j = some d) :
    (match aGuard ops f o with
      | some g => (g = true → T f) ∧ (g = false → F f)
      | none => False) = guardW (f d) want (fun v => T (upd f d v)) (fun v => F (upd f d v)) := by
  unfold aGuard
  rw [hg]
  simp only
  unfold dstAt at hd
  rw [hd]
  simp only
  have hs := upd_self f d
  generalize hv : f d = v at *
  cases v <;> simp only [guardW] <;> try rfl
  case c x =>
    cases x <;> simp only
    rename_i b
    cases b <;> cases want <;> simp [hs]
  case tup l => simp [hs]

def gT (E : Env) (ow : List Nat) (N : Nat) (ops : Array Oper) (o : Oper) (l : List Oper) (K : (Nat → AV) → Store → Prop) (d : Tmp) (f : Nat → AV) (σ : Store) (v : AV) : Prop := opK E ow o (upd f d v) σ (kont E ow N ops l K o.dst (upd f d v))
def gF (E : Env) (ow : List Nat) (N : Nat) (ops : Array Oper) (o : Oper) (l : List Oper) (K : (Nat → AV) → Store → Prop) (d : Tmp) (f : Nat → AV) (σ : Store) (v : AV) : Prop := kont E ow N ops l K o.dst (upd f d v) (.tup []) σ
@[simp ↓] theorem gT_eq (o : Oper) (l : List Oper) (K : (Nat → AV) → Store → Prop) (d : Tmp) (f : Nat → AV) (σ : Store) (v : AV) : gT E ow N ops o l K d f σ v = opK E ow o (upd f d v) σ (kont E ow N ops l K o.dst (upd f d v)) := (rfl)
@[simp ↓] theorem gF_eq (o : Oper) (l : List Oper) (K : (Nat → AV) → Store → Prop) (d : Tmp) (f : Nat → AV) (σ : Store) (v : AV) : gF E ow N ops o l K d f σ v = kont E ow N ops l K o.dst (upd f d v) (.tup []) σ := (rfl)
@[simp ↓] theorem aops_none (d : Option Tmp) (op : Op) (ty : TypeId) (pos : String) (after : Array Edge) (l : List Oper) (f : Nat → AV) (σ : Store) (K : (Nat → AV) → Store → Prop) :
    aops E ow N ops (⟨d, op, ty, pos, after, none⟩ :: l) f σ K = opK E ow ⟨d, op, ty, pos, after, none⟩ f σ (kont E ow N ops l K d f) := by
  rw [aops_cons, if_pos (show aGuard ops f ⟨d, op, ty, pos, after, none⟩ = some true from rfl)]
@[simp ↓] theorem aops_some (d : Option Tmp) (op : Op) (ty : TypeId) (pos : String) (after : Array Edge) (j : Nat) (want : Bool) (l : List Oper) (f : Nat → AV) (σ : Store) (K : (Nat → AV) → Store → Prop) :
    aops E ow N ops (⟨d, op, ty, pos, after, some (j, want)⟩ :: l) f σ K = (match dstAt ops j with
      | some e => guardW (f e) want (gT E ow N ops ⟨d, op, ty, pos, after, some (j, want)⟩ l K e f σ) (gF E ow N ops ⟨d, op, ty, pos, after, some (j, want)⟩ l K e f σ)
      | none => False) := by
  split
  · rename_i e he
    exact (guard_split (T := fun f => opK E ow ⟨d, op, ty, pos, after, some (j, want)⟩ f σ (kont E ow N ops l K d f)) (F := fun f => kont E ow N ops l K d f (.tup []) σ) rfl he)
  · rename_i he
    unfold dstAt at he
    rw [aops]
    unfold aGuard
    simp only [he]

variable {Q : (Nat → AV) → Store → Prop}
def eT (E : Env) (ow : List Nat) (N : Nat) (ops : Array Oper) (Q : (Nat → AV) → Store → Prop) (a : An) (an : List An) (o : Oper) (l : List Oper) (k cur : Nat) (past : List (Nat × Store)) (pend : List Pend) (d : Tmp) (f : Nat → AV) (σ : Store) (v : AV) : Prop := match a with
  | .q ps => opR E ow o (upd f d v) σ (kontQ E ow N ops Q ps an o l k cur past pend (upd f d v) σ)
  | .e => opD E ow o (upd f d v) σ (kontE E ow N ops Q an o l k cur past pend (upd f d v) σ)
def eF (E : Env) (ow : List Nat) (N : Nat) (ops : Array Oper) (Q : (Nat → AV) → Store → Prop) (a : An) (an : List An) (o : Oper) (l : List Oper) (k cur : Nat) (past : List (Nat × Store)) (pend : List Pend) (d : Tmp) (f : Nat → AV) (σ : Store) (v : AV) : Prop := match a with
  | .q ps => putE E ow N ops Q an l (k + 1) cur past pend (upd f d v) σ o.dst (.tup [])
  | .e => kontE E ow N ops Q an o l k cur past pend (upd f d v) σ (.tup []) σ
@[simp ↓] theorem eT_q (ps : List Nat) (an : List An) (o : Oper) (l : List Oper) (k cur : Nat) (past : List (Nat × Store)) (pend : List Pend) (d : Tmp) (f : Nat → AV) (σ : Store) (v : AV) : eT E ow N ops Q (.q ps) an o l k cur past pend d f σ v = opR E ow o (upd f d v) σ (kontQ E ow N ops Q ps an o l k cur past pend (upd f d v) σ) := (rfl)
@[simp ↓] theorem eT_e (an : List An) (o : Oper) (l : List Oper) (k cur : Nat) (past : List (Nat × Store)) (pend : List Pend) (d : Tmp) (f : Nat → AV) (σ : Store) (v : AV) : eT E ow N ops Q .e an o l k cur past pend d f σ v = opD E ow o (upd f d v) σ (kontE E ow N ops Q an o l k cur past pend (upd f d v) σ) := (rfl)
@[simp ↓] theorem eF_q (ps : List Nat) (an : List An) (o : Oper) (l : List Oper) (k cur : Nat) (past : List (Nat × Store)) (pend : List Pend) (d : Tmp) (f : Nat → AV) (σ : Store) (v : AV) : eF E ow N ops Q (.q ps) an o l k cur past pend d f σ v = putE E ow N ops Q an l (k + 1) cur past pend (upd f d v) σ o.dst (.tup []) := (rfl)
@[simp ↓] theorem eF_e (an : List An) (o : Oper) (l : List Oper) (k cur : Nat) (past : List (Nat × Store)) (pend : List Pend) (d : Tmp) (f : Nat → AV) (σ : Store) (v : AV) : eF E ow N ops Q .e an o l k cur past pend d f σ v = kontE E ow N ops Q an o l k cur past pend (upd f d v) σ (.tup []) σ := (rfl)
@[simp ↓] theorem aopsE_q_none (ps : List Nat) (an : List An) (d : Option Tmp) (op : Op) (ty : TypeId) (pos : String) (after : Array Edge) (l : List Oper) (k cur : Nat) (past : List (Nat × Store)) (pend : List Pend) (f : Nat → AV) (σ : Store) :
    aopsE E ow N ops Q (.q ps :: an) (⟨d, op, ty, pos, after, none⟩ :: l) k cur past pend f σ = opR E ow ⟨d, op, ty, pos, after, none⟩ f σ (kontQ E ow N ops Q ps an ⟨d, op, ty, pos, after, none⟩ l k cur past pend f σ) := by
  rw [aopsE_q, if_pos (show aGuard ops f ⟨d, op, ty, pos, after, none⟩ = some true from rfl)]
@[simp ↓] theorem aopsE_e_none (an : List An) (d : Option Tmp) (op : Op) (ty : TypeId) (pos : String) (after : Array Edge) (l : List Oper) (k cur : Nat) (past : List (Nat × Store)) (pend : List Pend) (f : Nat → AV) (σ : Store) :
    aopsE E ow N ops Q (.e :: an) (⟨d, op, ty, pos, after, none⟩ :: l) k cur past pend f σ = opD E ow ⟨d, op, ty, pos, after, none⟩ f σ (kontE E ow N ops Q an ⟨d, op, ty, pos, after, none⟩ l k cur past pend f σ) := by
  rw [aopsE_e, if_pos (show aGuard ops f ⟨d, op, ty, pos, after, none⟩ = some true from rfl)]
@[simp ↓] theorem aopsE_some (a : An) (an : List An) (d : Option Tmp) (op : Op) (ty : TypeId) (pos : String) (after : Array Edge) (j : Nat) (want : Bool) (l : List Oper) (k cur : Nat) (past : List (Nat × Store)) (pend : List Pend) (f : Nat → AV) (σ : Store) :
    aopsE E ow N ops Q (a :: an) (⟨d, op, ty, pos, after, some (j, want)⟩ :: l) k cur past pend f σ = (match dstAt ops j with
      | some e => guardW (f e) want (eT E ow N ops Q a an ⟨d, op, ty, pos, after, some (j, want)⟩ l k cur past pend e f σ) (eF E ow N ops Q a an ⟨d, op, ty, pos, after, some (j, want)⟩ l k cur past pend e f σ)
      | none => False) := by
  cases a with
  | q ps =>
    split
    · rename_i e he
      exact guard_split (o := ⟨d, op, ty, pos, after, some (j, want)⟩) (f := f) (T := fun f => opR E ow ⟨d, op, ty, pos, after, some (j, want)⟩ f σ (kontQ E ow N ops Q ps an ⟨d, op, ty, pos, after, some (j, want)⟩ l k cur past pend f σ)) (F := fun f => putE E ow N ops Q an l (k + 1) cur past pend f σ d (.tup [])) rfl he
    · rename_i he
      unfold dstAt at he
      rw [aopsE]
      unfold aGuard
      simp only [he]
  | e =>
    split
    · rename_i e he
      exact guard_split (o := ⟨d, op, ty, pos, after, some (j, want)⟩) (f := f) (T := fun f => opD E ow ⟨d, op, ty, pos, after, some (j, want)⟩ f σ (kontE E ow N ops Q an ⟨d, op, ty, pos, after, some (j, want)⟩ l k cur past pend f σ)) (F := fun f => kontE E ow N ops Q an ⟨d, op, ty, pos, after, some (j, want)⟩ l k cur past pend f σ (.tup []) σ) rfl he
    · rename_i he
      unfold dstAt at he
      rw [aopsE]
      unfold aGuard
      simp only [he]
attribute [simp] dstAt
end

@[congr] theorem ACalls_congr {E : Env} {k : FuncId} {args args' : List AV} {σ : Store} {K : AV → Store → Prop} (h : args = args') : ACalls E k args σ K = ACalls E k args' σ K := by rw [h]
@[congr] theorem callD_congr {E : Env} {k : FuncId} {args args' : List AV} {σ : Store} {K : AV → Store → Prop} (h : args = args') : callD E k args σ K = callD E k args' σ K := by rw [h]
@[congr] theorem callQ_congr {E : Env} {k : FuncId} {args args' : List AV} {σ : Store} {K : AV → Prop} (h : args = args') : callQ E k args σ K = callQ E k args' σ K := by rw [h]
@[simp ↓] theorem opRc_call {E : Env} {ow : List Nat} (d : Option Tmp) (k : FuncId) (args : Array Operand) (argTypes : Array TypeId) (ty : TypeId) (pos : String) (after : Array Edge) (guard : Option (Nat × Bool)) (f : Nat → AV) (σ : Store) (K : AV → Prop) (hk : callable E.P k = true) :
    opRc E ow ⟨d, .call { callee := .value (.func k), args := args, argTypes := argTypes }, ty, pos, after, guard⟩ f σ K = callQ E k (args.toList.map fun x => argV ow k (aeval E.G f x)) σ K := by
  unfold opRc callQ
  simp only [opK, aCall, aeval, hk, if_true, List.nil_append, List.append_nil]
/-- A call in a region that draws its order. -/
theorem Pur.d {E : Env} {k : FuncId} {args : List AV} {r : AV} (h : Pur E k args r) {σ : Store} {K : AV → Store → Prop} (hk : K r σ) : callD E k args σ K := callD_of (h σ) hk
theorem Pur.q {E : Env} {k : FuncId} {args : List AV} {r : AV} (h : Pur E k args r) {σ : Store} {K : AV → Prop} (hk : K r) : callQ E k args σ K := callQ_of (h σ) hk
end Go.AW
