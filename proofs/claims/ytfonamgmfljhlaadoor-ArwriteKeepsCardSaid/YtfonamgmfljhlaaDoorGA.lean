/- Merged texts, in order: The abstract values and the abstract store; how they stand to Go's values and memory; what a step of the machine keeps. No condition. | What each operation of the machine does to abstract values (a condition with what follows in it), and that the machine does the same. No condition. | Writing and making objects of the store: what becomes of the relation between store and memory. No condition. | Operations that write, make, address, cut and convert. No condition. | Operations that make variables, structs and slices, take addresses, fields and elements, and cut. No condition. | Structs and slices that are built, appended to, cut, measured and converted. No condition. | append onto a row that only grows. No condition. | More operations: conversions, cuts, make, literals, lengths. No condition. -/
import Derived.Tactics
import Derived.Laws.Cells
import Derived.Laws.AppendOwn
import Derived.Deep.Draws
import Derived.RangeFuncRecord
import Derived.OrdersIn
import Derived.TacticsIn
import Derived.WalkKit
import Derived.Lib.AppendStr
import Derived.Laws.BytesArg
import Derived.Lib.ConvBytes
import Derived.Laws.BytesString
import Derived.Laws.MakeOwn
import Derived.Laws.IdiomStrings
section
set_option linter.unusedVariables false
set_option linter.unusedSimpArgs false
set_option linter.unnecessarySimpa false
namespace Go.AW
open Go

/-- An abstract value: 'c': a value of one cell that holds no address; 'nl': a slice without room; 'ps', 'pp': a slice, a pointer into memory that is written no more; 'rs', 'rp', 'mp': a slice, a pointer, a map of the store; 'rc': a slice of the store whose capacity is known; 'lg': a row that only grows: these elements, and the store's object i says whether nothing stands behind them. -/
inductive AV where
  | c (v : Value)
  | junk
  | nl
  | agg (cs : List AV)
  | tup (vs : List AV)
  | ps (es : List AV)
  | fs (l : List UInt8)
  | pp (cs : List AV)
  | rs (i g off len : Nat)
  | rc (i g off len cap : Nat)
  | lg (i : Nat) (es : List AV)
  | rp (i g k off : Nat)
  | mp (i : Nat)
  | fn (f : Fn) (first cap : List AV)
  | ifc (t : TypeId) (v : AV)
  deriving Inhabited

def AV.cells : AV → List AV
  | .agg cs => cs
  | a => [a]

/-- Where an object of the store lies: its block (none: a nil slice), cells per element, capacity in elements, generation; 'lim': of a row that only grows: as many cells are written no more. -/
structure Loc where
  blk : Option Nat
  sz : Nat
  cap : Nat
  gen : Nat
  lim : Option Nat := none

/-- The objects of the store, where they lie; 'base': the blocks from here on were made since the first call began. -/
structure Ctx where
  get : Nat → Option Loc
  next : Nat
  base : Nat

def Ctx.owns (Γ : Ctx) (b : Nat) : Prop := ∃ i l, Γ.get i = some l ∧ l.blk = some b

/-- This cell is written no more. -/
def Ctx.fixd (Γ : Ctx) (b n : Nat) : Prop := ∀ i l, Γ.get i = some l → l.blk = some b → ∃ m, l.lim = some m ∧ n < m
theorem Ctx.fixd_of {Γ : Ctx} {b n : Nat} (h : ¬ Γ.owns b) : Γ.fixd b n := fun i l hi hb => absurd ⟨i, l, hi, hb⟩ h

def Loc.rsAt (l : Loc) (off len : Nat) (a : Option Addr) (cap : Nat) : Prop :=
  match l.blk with
  | none => off = 0 ∧ len = 0 ∧ cap = 0
  | some b => off + cap = l.cap ∧ (cap = 0 ∨ a = some ⟨b, off * l.sz, none⟩) ∧ (off = 0 → a = some ⟨b, 0, none⟩)

inductive VR (Γ : Ctx) (w : World) : AV → Value → Prop
  | c (v : Value) (h : v.oneCell' = true) : VR Γ w (.c v) v
  | junk (v : Value) : VR Γ w .junk v
  | nl (a : Option Addr) : VR Γ w .nl (.slice a 0 0)
  | agg (cs : List AV) (xs : Array Value) (hs : cs.length = xs.size) (h1 : ∀ (j : Nat) (x : Value), xs[j]? = some x → x.oneCell' = true)
      (h : ∀ (j : Nat) (a : AV) (x : Value), cs[j]? = some a → xs[j]? = some x → VR Γ w a x) : VR Γ w (.agg cs) (.agg xs)
  | tup (cs : List AV) (xs : Array Value) (hs : cs.length = xs.size) (h : ∀ (j : Nat) (a : AV) (x : Value), cs[j]? = some a → xs[j]? = some x → VR Γ w a x) : VR Γ w (.tup cs) (.tuple xs)
  | ps (es : List AV) (a : Option Addr) (cap b o : Nat) (us : Nat → Nat → Value) (hc : es.length ≤ cap)
      (ha : es ≠ [] → a = some ⟨b, o, none⟩ ∧ b < w.heap.size)
      (hw : ∀ (k : Nat) (e : AV) (j : Nat) (x : AV), es[k]? = some e → e.cells[j]? = some x → w.cell? ⟨b, o + k * e.cells.length + j, none⟩ = some (us k j) ∧ Γ.fixd b (o + k * e.cells.length + j))
      (h1 : ∀ (k : Nat) (e : AV) (j : Nat) (x : AV), es[k]? = some e → e.cells[j]? = some x → (us k j).oneCell' = true)
      (h : ∀ (k : Nat) (e : AV) (j : Nat) (x : AV), es[k]? = some e → e.cells[j]? = some x → VR Γ w x (us k j)) : VR Γ w (.ps es) (.slice a es.length cap)
  | fs (l : List UInt8) (b cap : Nat) (hb : ¬ Γ.owns b ∧ b < w.heap.size ∧ Γ.base ≤ b) (hc : l.length ≤ cap)
      (hx : ∃ xs t fr, w.heap[b]? = some (.cells xs t fr) ∧ ∀ (k : Nat) (x : UInt8), l[k]? = some x → xs[k]? = some (.int .u8 x.toNat)) : VR Γ w (.fs l) (.slice (some ⟨b, 0, none⟩) l.length cap)
  | pp (cs : List AV) (b o : Nat) (us : Nat → Value) (hb : b < w.heap.size)
      (hw : ∀ (j : Nat) (x : AV), cs[j]? = some x → w.cell? ⟨b, o + j, none⟩ = some (us j) ∧ Γ.fixd b (o + j)) (h1 : ∀ (j : Nat) (x : AV), cs[j]? = some x → (us j).oneCell' = true)
      (h : ∀ (j : Nat) (x : AV), cs[j]? = some x → VR Γ w x (us j)) : VR Γ w (.pp cs) (.pointer (some ⟨b, o, none⟩))
  | rs (i g off len : Nat) (a : Option Addr) (cap : Nat) (hi : i < Γ.next) (hl : len ≤ cap) (h : ∀ l, Γ.get i = some l → g ≤ l.gen ∧ (l.gen = g → l.rsAt off len a cap)) :
      VR Γ w (.rs i g off len) (.slice a len cap)
  | rc (i g off len cap : Nat) (a : Option Addr) (hi : i < Γ.next) (hl : len ≤ cap) (h : ∀ l, Γ.get i = some l → g ≤ l.gen ∧ (l.gen = g → l.rsAt off len a cap)) :
      VR Γ w (.rc i g off len cap) (.slice a len cap)
  | lg (i : Nat) (es : List AV) (v : Value) (h1 : VR Γ w (.ps es) v) (h2 : VR Γ w (.rs i es.length 0 es.length) v) (h3 : ∀ l, Γ.get i = some l → l.gen = es.length → ∀ e ∈ es, e.cells.length = l.sz) : VR Γ w (.lg i es) v
  | rp (i g k off : Nat) (a : Addr) (hi : i < Γ.next) (h : ∀ l, Γ.get i = some l → g ≤ l.gen ∧ (l.gen = g → ∃ b, l.blk = some b ∧ a = ⟨b, k * l.sz + off, none⟩)) :
      VR Γ w (.rp i g k off) (.pointer (some a))
  | mp (i r : Nat) (hi : i < Γ.next) (h : ∀ l, Γ.get i = some l → l.gen = 0 → l.blk = some r) : VR Γ w (.mp i) (.map (some r))
  | fn (f : Fn) (first cap : List AV) (xs ys : Array Value) (hx : first.length = xs.size) (hy : cap.length = ys.size)
      (h : ∀ (j : Nat) (a : AV) (x : Value), first[j]? = some a → xs[j]? = some x → VR Γ w a x) (h' : ∀ (j : Nat) (a : AV) (x : Value), cap[j]? = some a → ys[j]? = some x → VR Γ w a x) :
      VR Γ w (.fn f first cap) (.func f xs ys)
  | ifc (t : TypeId) (a : AV) (v : Value) (h : VR Γ w a v) : VR Γ w (.ifc t a) (.iface t v)

/-- A block that is not of the store is as it was; of one that is not old the mark behind its cells may have turned. -/
def SameBlk (base b : Nat) (o o' : Option Obj) : Prop := o' = o ∨ (base ≤ b ∧ ∃ xs t fr fr', o = some (.cells xs t fr) ∧ o' = some (.cells xs t fr'))

theorem SameBlk.trans {base b : Nat} {o o' o'' : Option Obj} (h : SameBlk base b o o') (k : SameBlk base b o' o'') : SameBlk base b o o'' := by
  rcases h with rfl | ⟨h0, xs, t, fr, fr', h1, h2⟩
  · exact k
  · rcases k with rfl | ⟨_, xs', t', fr1, fr2, k1, k2⟩
    · exact .inr ⟨h0, xs, t, fr, fr', h1, h2⟩
    · rw [h2] at k1
      cases k1
      exact .inr ⟨h0, xs, t, fr, fr2, h1, k2⟩

/-- What a step keeps: whatever no object of the store owns is as it was; an object whose number is below n lies where it lay if its generation is the same. -/
structure ExtN (n : Nat) (Γ : Ctx) (w : World) (Γ' : Ctx) (w' : World) : Prop where
  os : w'.os = w.os
  tape : w'.tape = w.tape
  output : w'.output = w.output
  size : w.heap.size ≤ w'.heap.size
  sealed : ∀ b, b < w.heap.size → ¬ Γ.owns b → SameBlk Γ.base b w.heap[b]? w'.heap[b]? ∧ ¬ Γ'.owns b
  fixd : ∀ b k, b < w.heap.size → Γ.fixd b k → (∀ v, w.cell? ⟨b, k, none⟩ = some v → w'.cell? ⟨b, k, none⟩ = some v) ∧ Γ'.fixd b k
  locs : ∀ i l', i < n → Γ'.get i = some l' → ∃ l, Γ.get i = some l ∧ l.gen ≤ l'.gen ∧ (l.gen = l'.gen → l' = l)
  le : n ≤ Γ.next
  le' : n ≤ Γ'.next
  base : Γ'.base = Γ.base

theorem ExtN.refl {n : Nat} (Γ : Ctx) (w : World) (h : n ≤ Γ.next) : ExtN n Γ w Γ w :=
  ⟨rfl, rfl, rfl, Nat.le_refl _, fun _ _ h => ⟨.inl rfl, h⟩, fun _ _ _ h => ⟨fun _ h => h, h⟩, fun i l' _ h => ⟨l', h, Nat.le_refl _, fun _ => rfl⟩, h, h, rfl⟩

theorem ExtN.mono {n m : Nat} {Γ Γ' : Ctx} {w w' : World} (h : ExtN n Γ w Γ' w') (hm : m ≤ n) : ExtN m Γ w Γ' w' :=
  ⟨h.os, h.tape, h.output, h.size, h.sealed, h.fixd, fun i l' hi => h.locs i l' (by omega), Nat.le_trans hm h.le, Nat.le_trans hm h.le', h.base⟩

theorem ExtN.trans {n : Nat} {Γ Γ' Γ'' : Ctx} {w w' w'' : World} (h : ExtN n Γ w Γ' w') (k : ExtN n Γ' w' Γ'' w'') : ExtN n Γ w Γ'' w'' := by
  refine ⟨k.os.trans h.os, k.tape.trans h.tape, k.output.trans h.output, Nat.le_trans h.size k.size, ?_, ?_, ?_, h.le, k.le', k.base.trans h.base⟩
  · intro b hb ho
    obtain ⟨h1, h2⟩ := h.sealed b hb ho
    obtain ⟨k1, k2⟩ := k.sealed b (Nat.lt_of_lt_of_le hb h.size) h2
    rw [h.base] at k1
    exact ⟨h1.trans k1, k2⟩
  · intro b m hb hf
    obtain ⟨h1, h2⟩ := h.fixd b m hb hf
    obtain ⟨k1, k2⟩ := k.fixd b m (Nat.lt_of_lt_of_le hb h.size) h2
    exact ⟨fun v hv => k1 v (h1 v hv), k2⟩
  · intro i l'' hi hl
    obtain ⟨l', hl', g1, e1⟩ := k.locs i l'' hi hl
    obtain ⟨l, hl0, g0, e0⟩ := h.locs i l' hi hl'
    refine ⟨l, hl0, Nat.le_trans g0 g1, fun e => ?_⟩
    have : l'.gen = l''.gen := by omega
    rw [e1 this]
    exact e0 (by omega)

theorem cell_lt {w : World} {a : Addr} {v : Value} (h : w.cell? a = some v) : a.block < w.heap.size := World.block_lt_of_cell? w a h

theorem ExtN.cell {n : Nat} {Γ Γ' : Ctx} {w w' : World} (h : ExtN n Γ w Γ' w') {a : Addr} {v : Value} (hc : w.cell? a = some v) (ho : ¬ Γ.owns a.block) : w'.cell? a = some v := by
  rcases (h.sealed a.block (cell_lt hc) ho).1 with e | ⟨_, xs, t, fr, fr', e1, e2⟩
  · rw [World.cell?_of_block (w := w) e]
    exact hc
  · unfold World.cell? at hc ⊢
    rw [e1] at hc
    rw [e2]
    exact hc

/-- The step lemma: what stood for an abstract value still stands for it. -/
theorem VR.ext {Γ Γ' : Ctx} {w w' : World} (hx : ExtN Γ.next Γ w Γ' w') {a : AV} {v : Value} (h : VR Γ w a v) : VR Γ' w' a v := by
  induction h with
  | c v h => exact .c v h
  | junk v => exact .junk v
  | nl a => exact .nl a
  | agg cs xs hs h1 _ ih => exact .agg cs xs hs h1 ih
  | tup cs xs hs _ ih => exact .tup cs xs hs ih
  | ps es a cap b o us hc ha hw h1 _ ih =>
    refine .ps es a cap b o us hc (fun hne => ?_) ?_ h1 ih
    · obtain ⟨ha1, ha3⟩ := ha hne
      exact ⟨ha1, Nat.lt_of_lt_of_le ha3 hx.size⟩
    · intro k e j x hk hj
      have hne : es ≠ [] := by intro e0; subst e0; simp at hk
      obtain ⟨h2, h3⟩ := hw k e j x hk hj
      obtain ⟨h4, h5⟩ := hx.fixd b _ (ha hne).2 h3
      exact ⟨h4 _ h2, h5⟩
  | fs l b cap hb hc hh =>
    obtain ⟨xs, t, fr, h1, h2⟩ := hh
    obtain ⟨k1, k2⟩ := hx.sealed b hb.2.1 hb.1
    refine .fs l b cap ⟨k2, Nat.lt_of_lt_of_le hb.2.1 hx.size, by rw [hx.base]; exact hb.2.2⟩ hc ?_
    rcases k1 with e | ⟨_, xs', t', fr1, fr2, e1, e2⟩
    · exact ⟨xs, t, fr, e.trans h1, h2⟩
    · rw [h1] at e1
      cases e1
      exact ⟨xs, t, fr2, e2, h2⟩
  | pp cs b o us hb hw h1 _ ih =>
    exact .pp cs b o us (Nat.lt_of_lt_of_le hb hx.size) (fun j x hj => ⟨(hx.fixd b _ hb (hw j x hj).2).1 _ (hw j x hj).1, (hx.fixd b _ hb (hw j x hj).2).2⟩) h1 ih
  | rs i g off len a cap hi hl h =>
    refine .rs i g off len a cap (Nat.lt_of_lt_of_le hi hx.le') hl fun l' hl' => ?_
    obtain ⟨l, hg, h1, h2⟩ := hx.locs i l' hi hl'
    obtain ⟨h3, h4⟩ := h l hg
    refine ⟨by omega, fun e => ?_⟩
    have e' : l.gen = l'.gen := by omega
    rw [h2 e']
    exact h4 (by omega)
  | rc i g off len cap a hi hl h =>
    refine .rc i g off len cap a (Nat.lt_of_lt_of_le hi hx.le') hl fun l' hl' => ?_
    obtain ⟨l, hg, h1, h2⟩ := hx.locs i l' hi hl'
    obtain ⟨h3, h4⟩ := h l hg
    refine ⟨by omega, fun e => ?_⟩
    have e' : l.gen = l'.gen := by omega
    rw [h2 e']
    exact h4 (by omega)
  | lg i es v h1 h2 h3 ih1 ih2 =>
    refine .lg i es v ih1 ih2 fun l' hl' hg => ?_
    cases h2 with
    | rs _ _ _ _ a cap hi hl h =>
      obtain ⟨l, hgl, h4, h5⟩ := hx.locs i l' hi hl'
      have e : l.gen = l'.gen := by have := (h l hgl).1; omega
      rw [h5 e]
      exact h3 l hgl (by omega)
  | rp i g k off a hi h =>
    refine .rp i g k off a (Nat.lt_of_lt_of_le hi hx.le') fun l' hl' => ?_
    obtain ⟨l, hg, h1, h2⟩ := hx.locs i l' hi hl'
    obtain ⟨h3, h4⟩ := h l hg
    refine ⟨by omega, fun e => ?_⟩
    have e' : l.gen = l'.gen := by omega
    rw [h2 e']
    exact h4 (by omega)
  | mp i r hi h =>
    refine .mp i r (Nat.lt_of_lt_of_le hi hx.le') fun l' hl' e => ?_
    obtain ⟨l, hg, h1, h2⟩ := hx.locs i l' hi hl'
    have e' : l.gen = l'.gen := by omega
    rw [h2 e']
    exact h l hg (by omega)
  | fn f first cap xs ys hx' hy _ _ ih ih' => exact .fn f first cap xs ys hx' hy ih ih'
  | ifc t a v _ ih => exact .ifc t a v ih

/-- Every object of the store that it names has a number below m. -/
inductive Bel (m : Nat) : AV → Prop
  | c (v) : Bel m (.c v)
  | junk : Bel m .junk
  | nl : Bel m .nl
  | agg (cs : List AV) (h : ∀ a ∈ cs, Bel m a) : Bel m (.agg cs)
  | tup (cs : List AV) (h : ∀ a ∈ cs, Bel m a) : Bel m (.tup cs)
  | ps (es : List AV) (h : ∀ a ∈ es, Bel m a) : Bel m (.ps es)
  | fs (l : List UInt8) : Bel m (.fs l)
  | pp (es : List AV) (h : ∀ a ∈ es, Bel m a) : Bel m (.pp es)
  | rs (i g off len : Nat) (h : i < m) : Bel m (.rs i g off len)
  | rc (i g off len cap : Nat) (h : i < m) : Bel m (.rc i g off len cap)
  | lg (i : Nat) (es : List AV) (h : i < m) (h' : ∀ a ∈ es, Bel m a) : Bel m (.lg i es)
  | rp (i g k off : Nat) (h : i < m) : Bel m (.rp i g k off)
  | mp (i : Nat) (h : i < m) : Bel m (.mp i)
  | fn (f : Fn) (xs ys : List AV) (h : ∀ a ∈ xs, Bel m a) (h' : ∀ a ∈ ys, Bel m a) : Bel m (.fn f xs ys)
  | ifc (t : TypeId) (a : AV) (h : Bel m a) : Bel m (.ifc t a)

/-! ### The store -/
inductive AObj where
  | arr (T : TypeId) (gen : Nat) (es : List AV)
  | map (ents : List (Value × AV)) (born : List Nat) (clock : Nat)
  | log (T : TypeId) (n : Nat)
  | lp (b : Nat) (L : Loop) (vs : List AV)
  | it (o : Obj)
  | mi (m since : Nat) (seen : List Nat) (last : Nat)
  deriving Inhabited
/-- How many of its cells are written no more. -/
def AObj.lim (o : AObj) (l : Loc) : Option Nat := match o with
  | .log _ n => some (n * l.sz)
  | _ => none

structure Store where
  get : Nat → Option AObj
  next : Nat

def Store.set (σ : Store) (i : Nat) (o : AObj) : Store := ⟨fun j => if j = i then some o else σ.get j, σ.next⟩
def Store.alloc (σ : Store) (o : AObj) : Store := ⟨fun j => if j = σ.next then some o else σ.get j, σ.next + 1⟩

def cellsOf' (P : Program) (t : TypeId) : Nat := ((P.info? t).map (·.size)).getD 0

/-- An iterator over a string. -/
def itOk : Obj → Bool
  | .stringIter .. => true
  | .mapIter none _ _ _ => true
  | _ => false

def ObjRel (P : Program) (Γ : Ctx) (w : World) : AObj → Loc → Prop
  | .arr T g es, l => l.gen = g ∧ l.sz = cellsOf' P T ∧ (∀ e ∈ es, e.cells.length = l.sz) ∧ es.length ≤ l.cap ∧ l.cap ≤ maxLen ∧
    match l.blk with
    | none => es = [] ∧ l.cap = 0
    | some b => ∃ (xs : Array Value) (fr : Nat × Nat), w.heap[b]? = some (.cells xs T fr) ∧ (fr.1 = fr.2 ∨ xs.size ≤ fr.1 ∧ l.sz = 1) ∧ xs.size = l.cap * l.sz ∧
      ∀ (k : Nat) (e : AV) (j : Nat) (x : AV), es[k]? = some e → e.cells[j]? = some x → ∃ u, xs[k * l.sz + j]? = some u ∧ u.oneCell' = true ∧ VR Γ w x u
  | .map ents born clock, l => l.gen = 0 ∧ ∃ (b : Nat) (es : Array MapEntry), l.blk = some b ∧ w.heap[b]? = some (.map es clock) ∧ es.size = ents.length ∧
      (∀ (k : Nat) (e : MapEntry) (en : Value × AV), es[k]? = some e → ents[k]? = some en → e.key = en.1 ∧ VR Γ w en.2 e.val) ∧ es.toList.map (·.born) = born
  | .log T n, l => l.gen = n ∧ l.sz = cellsOf' P T ∧ n ≤ l.cap ∧ l.cap ≤ maxLen ∧
    match l.blk with
    | none => n = 0 ∧ l.cap = 0
    | some b => ∃ (xs : Array Value) (fr : Nat × Nat), w.heap[b]? = some (.cells xs T fr) ∧ (fr.1 = fr.2 ∨ xs.size ≤ fr.1 ∧ l.sz = 1) ∧ xs.size = l.cap * l.sz
  | .lp b L vs, l => l.gen = 0 ∧ l.blk = some b ∧ w.heap[b]? = some (.loop L) ∧ L.tmps.size = vs.length ∧ ∀ (t : Nat) (a : AV) (v : Value), vs[t]? = some a → L.tmps[t]? = some v → VR Γ w a v
  | .it o, l => l.gen = 0 ∧ ∃ b, l.blk = some b ∧ w.heap[b]? = some o ∧ itOk o = true
  | .mi m since seen last, l => l.gen = 0 ∧ ∃ b bm, l.blk = some b ∧ w.heap[b]? = some (.mapIter (some bm) since seen.toArray last) ∧ VR Γ w (.mp m) (.map (some bm))

/-- The program, what its variables hold, and with which values it may panic here. -/
structure Env where
  P : Program
  G : Nat → Option (List AV)
  pan : AV → Store → Prop

/-- What a variable of the program holds, and that its block has no more cells. -/
structure GR (Γ : Ctx) (w : World) (cs : List AV) (g : Nat) : Prop where
  vr : VR Γ w (.pp cs) (.pointer (some ⟨g, 0, none⟩))
  own : ¬ Γ.owns g
  blk : ∃ (xs : Array Value) (t : TypeId) (fr : Nat × Nat), w.heap[g]? = some (.cells xs t fr) ∧ xs.size = cs.length
theorem GR.ext {Γ Γ' : Ctx} {w w' : World} {cs : List AV} {g : Nat} (h : GR Γ w cs g) (hx : ExtN Γ.next Γ w Γ' w') : GR Γ' w' cs g := by
  obtain ⟨h1, h2, xs, t, fr, h3, h4⟩ := h
  obtain ⟨k1, k2⟩ := hx.sealed g (Array.getElem?_eq_some_iff.1 h3).1 h2
  refine ⟨h1.ext hx, k2, ?_⟩
  rcases k1 with e | ⟨_, xs', t', fr1, fr2, e1, e2⟩
  · exact ⟨xs, t, fr, e.trans h3, h4⟩
  · rw [h3] at e1
    cases e1
    exact ⟨xs, t, fr2, e2, h4⟩

structure R (E : Env) (Γ : Ctx) (σ : Store) (w : World) : Prop where
  next : Γ.next = σ.next
  dom : ∀ i, (Γ.get i).isSome = (σ.get i).isSome
  bnd : ∀ i, σ.next ≤ i → σ.get i = none
  inj : ∀ i j li lj b, Γ.get i = some li → Γ.get j = some lj → li.blk = some b → lj.blk = some b → i = j
  objs : ∀ i o l, σ.get i = some o → Γ.get i = some l → ObjRel E.P Γ w o l
  glob : ∀ g cs, E.G g = some cs → GR Γ w cs g
  gbel : ∀ g cs (m : Nat), E.G g = some cs → Bel m (.pp cs)
  base : Γ.base ≤ w.heap.size
  lims : ∀ i o l, σ.get i = some o → Γ.get i = some l → l.lim = o.lim l

theorem R.loc {E : Env} {Γ : Ctx} {σ : Store} {w : World} (h : R E Γ σ w) {i : Nat} {o : AObj} (hi : σ.get i = some o) : ∃ l, Γ.get i = some l ∧ ObjRel E.P Γ w o l ∧ i < σ.next := by
  have hd := h.dom i
  rw [hi] at hd
  obtain ⟨l, hl⟩ := Option.isSome_iff_exists.1 hd
  refine ⟨l, hl, h.objs i o l hi hl, ?_⟩
  rcases Nat.lt_or_ge i σ.next with h1 | h1
  · exact h1
  · rw [h.bnd i h1] at hi; cases hi

theorem R.blk_lt {E : Env} {Γ : Ctx} {σ : Store} {w : World} (h : R E Γ σ w) {b : Nat} (ho : Γ.owns b) : b < w.heap.size := by
  obtain ⟨i, l, hl, hb⟩ := ho
  have hd := h.dom i
  rw [hl] at hd
  obtain ⟨o, ho⟩ := Option.isSome_iff_exists.1 hd.symm
  have hr := h.objs i o l ho hl
  cases o with
  | arr T g es =>
    simp only [ObjRel, hb] at hr
    obtain ⟨_, _, _, _, _, xs, fr, hx, _⟩ := hr
    exact (Array.getElem?_eq_some_iff.1 hx).1
  | map ents born clock =>
    obtain ⟨_, b', es, hb', hx, _⟩ := hr
    have : b' = b := by rw [hb'] at hb; exact Option.some.inj hb
    subst this
    exact (Array.getElem?_eq_some_iff.1 hx).1
  | lp b' L vs =>
    obtain ⟨_, hb', hx, _⟩ := hr
    have : b' = b := by rw [hb'] at hb; exact Option.some.inj hb
    subst this
    exact (Array.getElem?_eq_some_iff.1 hx).1
  | it o =>
    obtain ⟨_, b', hb', hx, _⟩ := hr
    have : b' = b := by rw [hb'] at hb; exact Option.some.inj hb
    subst this
    exact (Array.getElem?_eq_some_iff.1 hx).1
  | mi m since seen last =>
    obtain ⟨_, b', bm, hb', hx, _⟩ := hr
    have : b' = b := by rw [hb'] at hb; exact Option.some.inj hb
    subst this
    exact (Array.getElem?_eq_some_iff.1 hx).1
  | log T n =>
    simp only [ObjRel, hb] at hr
    obtain ⟨_, _, _, _, xs, fr, hx, _⟩ := hr
    exact (Array.getElem?_eq_some_iff.1 hx).1
end Go.AW
end

section
set_option linter.unusedVariables false
set_option linter.unusedSimpArgs false
set_option linter.unnecessarySimpa false
namespace Go.AW
open Go

/-! ### Types -/
def tsz (P : Program) (t : TypeId) : Nat := cellsOf' P t
inductive TK where
  | int (k : IntKind) | bool | str | slc (e : TypeId) | ptr (e : TypeId) | strct | arr (n : Nat) (e : TypeId) | map (k e : TypeId) | fn | ifc | other
  deriving DecidableEq
def tk (P : Program) (t : TypeId) : TK :=
  match P.underlying t with
  | some (.int k) => .int k
  | some .bool => .bool
  | some .string => .str
  | some (.slice e) => .slc e
  | some (.pointer e) => .ptr e
  | some (.struct _) => .strct
  | some (.array n e) => .arr n e
  | some (.map k e) => .map k e
  | some (.func ..) => .fn
  | some (.interface _) => .ifc
  | _ => .other
def TK.agg : TK → Bool
  | .strct | .arr .. => true
  | _ => false
def fld (P : Program) (t : TypeId) (i : Nat) : Option (Nat × TypeId) :=
  match P.underlying t with
  | some (.struct fs) => (fs[i]?).bind fun f => if cellsOf' P f.type = 0 then none else some (f.offset, f.type)
  | _ => none
def tzero (P : Program) (t : TypeId) : Option Value := (P.info? t).bind (·.zero)

theorem run_tsz {P : Program} {t : TypeId} (h : tsz P t ≠ 0) (w : World) : (sizeOf t).run P w = .ok (tsz P t) w := by
  unfold tsz cellsOf' at *
  cases hi : P.info? t with
  | none => simp [hi] at h
  | some i => simp [sizeOf, typeInfo, hi]

theorem run_isAgg {P : Program} {t : TypeId} (h : tk P t ≠ .other) (w : World) : (isAgg t).run P w = .ok (tk P t).agg w := by
  unfold tk at *
  unfold isAgg
  cases hu : P.underlying t with
  | none => simp [hu] at h
  | some d =>
    simp only [hu] at h ⊢
    rw [Sem.run_bind, run_underlying hu w]
    cases d <;> simp_all [TK.agg]

/-! ### Constants, operands -/
def AV.ofV1 : Value → AV
  | .slice none 0 0 => .nl
  | .agg _ => .junk
  | .tuple _ => .junk
  | v => .c v
def AV.ofV : Value → AV
  | .agg xs => if xs.all Value.oneCell' then .agg (xs.toList.map AV.ofV1) else .junk
  | .tuple xs => if xs.size = 0 then .tup [] else .junk
  | v => AV.ofV1 v

theorem VR.ofV1 (Γ : Ctx) (w : World) (v : Value) : VR Γ w (AV.ofV1 v) v := by
  unfold AV.ofV1
  split
  · exact .nl _
  · exact .junk _
  · exact .junk _
  · rename_i h1 h2 h3
    exact .c _ (by cases v <;> simp_all [Value.oneCell'])

theorem VR.ofV (Γ : Ctx) (w : World) (v : Value) : VR Γ w (AV.ofV v) v := by
  unfold AV.ofV
  split
  · rename_i xs
    split
    · rename_i h
      refine .agg _ _ (by simp) ?_ ?_
      · intro j x hx
        have := Array.all_eq_true.1 h j (Array.getElem?_eq_some_iff.1 hx).1
        rw [(Array.getElem?_eq_some_iff.1 hx).2] at this
        exact this
      · intro j a x ha hx
        simp only [List.getElem?_map, Array.getElem?_toList, hx, Option.map_some, Option.some.injEq] at ha
        subst ha
        exact VR.ofV1 Γ w x
    · exact .junk _
  · rename_i xs
    split
    · rename_i h
      have : xs = #[] := Array.eq_empty_of_size_eq_zero h
      subst this
      exact .tup [] #[] rfl (by intro j a x h; simp at h)
    · exact .junk _
  · exact VR.ofV1 Γ w v

def aeval (G : Nat → Option (List AV)) (f : Nat → AV) : Operand → AV
  | .tmp t => f t
  | .const v => AV.ofV v
  | .global g => match G g with
    | some cs => .pp cs
    | none => .junk
  | .func k => .fn (.func k) [] []

def upd (f : Nat → AV) (t : Nat) (v : AV) : Nat → AV := fun s => if s = t then v else f s

structure TR (N : Nat) (Γ : Ctx) (w : World) (f : Nat → AV) (tmps : Array Value) : Prop where
  size : tmps.size = N
  rel : ∀ t, t < N → VR Γ w (f t) (tmps.getD t undef)
  far : ∀ t, N ≤ t → f t = .junk

theorem TR.ext {N : Nat} {Γ Γ' : Ctx} {w w' : World} {f : Nat → AV} {tmps : Array Value} (h : TR N Γ w f tmps) (hx : ExtN Γ.next Γ w Γ' w') : TR N Γ' w' f tmps :=
  ⟨h.size, fun t ht => (h.rel t ht).ext hx, h.far⟩

theorem TR.upd {N : Nat} {Γ : Ctx} {w : World} {f : Nat → AV} {tmps : Array Value} (h : TR N Γ w f tmps) {t : Nat} {a : AV} {v : Value} (ht : t < N) (hv : VR Γ w a v) :
    TR N Γ w (upd f t a) (tmps.setIfInBounds t v) := by
  refine ⟨by simp [h.size], fun s hs => ?_, fun s hs => ?_⟩
  · unfold AW.upd
    have hsz := h.size
    by_cases e : s = t
    · subst e
      have : (tmps.setIfInBounds s v).getD s undef = v := by
        simp [Array.getD, hsz, hs]
      rw [this]; simpa using hv
    · have : (tmps.setIfInBounds t v).getD s undef = tmps.getD s undef := by
        simp only [Array.getD_eq_getD_getElem?, Array.getElem?_setIfInBounds]
        rw [if_neg (fun h => e h.symm)]
      rw [this, if_neg e]; exact h.rel s hs
  · unfold AW.upd
    rw [if_neg (by omega)]
    exact h.far s hs

theorem TR.eval {E : Env} {N : Nat} {Γ : Ctx} {σ : Store} {w : World} {f : Nat → AV} {a : Act} (h : TR N Γ w f a.tmps) (hr : R E Γ σ w) (x : Operand) : VR Γ w (aeval E.G f x) (a.eval x) := by
  cases x with
  | tmp t =>
    by_cases ht : t < N
    · exact h.rel t ht
    · simp only [aeval, h.far t (Nat.le_of_not_lt ht)]; exact .junk _
  | const v => exact VR.ofV Γ w v
  | global g =>
    simp only [aeval, Act.eval]
    cases hg : E.G g with
    | none => exact .junk _
    | some cs => exact (hr.glob g cs hg).vr
  | func k =>
    refine .fn (.func k) [] [] #[] #[] rfl rfl ?_ ?_ <;> intro j a x h <;> simp at h

/-! ### What a step of the machine has come to -/
def Res (E : Env) (Γ : Ctx) (w : World) (K : AV → Store → Prop) (v : Value) (w' : World) : Prop :=
  ∃ Γ' a σ', ExtN Γ.next Γ w Γ' w' ∧ R E Γ' σ' w' ∧ VR Γ' w' a v ∧ K a σ'

/-- No bound; in a function's own frame or in a round's. -/
def wideR (rd : Option Nat) : Fence := { fn := fun _ => True, depth := none, alive := false, round := rd }
theorem callsIn_rd {rd : Option Nat} {n m : Nat} {P : Program} {f : FuncId} {args : Array Value} {w : World} {R : Ending → World → Prop} (h : CallsIn Fence.wide n P f args w R) : CallsIn (wideR rd) m P f args w R :=
  ⟨trivial, fun cs _ => by
    obtain ⟨e, w', fr, r, s, x⟩ := h.2 cs (room_wide _)
    exact ⟨e, w', fr, r, s, x⟩⟩
theorem roundIn_rd {rd : Option Nat} {n m : Nat} {P : Program} {l : Nat} {f : FuncId} {tmps : Array Value} {assign body : Code} {w : World} {R : Ending → World → Prop} (h : RoundIn Fence.wide n P l f tmps assign body w R) : RoundIn (wideR rd) m P l f tmps assign body w R :=
  ⟨trivial, fun c cs _ => by
    obtain ⟨e, w', r, s⟩ := h.2 c cs (room_wide _)
    exact ⟨e, w', r, s⟩⟩
/-- A call has ended: with an answer, or with a panic that is allowed here. -/
def Ends (E : Env) (Γ : Ctx) (w : World) (K : AV → Store → Prop) (e : Ending) (w' : World) : Prop :=
  (∃ v, e = .returned v ∧ Res E Γ w K v w') ∨ ∃ v, e = .panicked [{ v := v, recovered := false }] ∧ Res E Γ w E.pan v w'
theorem Res.mono {E : Env} {Γ : Ctx} {w w' : World} {K K' : AV → Store → Prop} {v : Value} (h : Res E Γ w K v w') (hk : ∀ a s, K a s → K' a s) : Res E Γ w K' v w' := by
  obtain ⟨Γ', a, σ', h1, h2, h3, h4⟩ := h
  exact ⟨Γ', a, σ', h1, h2, h3, hk _ _ h4⟩
theorem Ends.mono {E : Env} {Γ : Ctx} {w : World} {K K' : AV → Store → Prop} {e : Ending} {w' : World} (h : Ends E Γ w K e w') (hk : ∀ a s, K a s → K' a s) : Ends E Γ w K' e w' := by
  rcases h with ⟨v, h1, h2⟩ | h
  · exact .inl ⟨v, h1, h2.mono hk⟩
  · exact .inr h
def Up (E : Env) (Γ : Ctx) (w : World) (K : AV → Store → Prop) : Result Next → Prop
  | .ok (.value v) w' => Res E Γ w K v w'
  | .ok .skip w' => Res E Γ w K undef w'
  | .ok (.enter f args) w' => Calls E.P f args w' (Ends E Γ w K)
  | .ok (.round l f tmps assign body) w' => RoundIn Fence.wide 0 E.P l f tmps assign body w' (Ends E Γ w K)
  | .halt (.panic v) w' => Res E Γ w E.pan v w'
  | _ => False

theorem Res.same {E : Env} {Γ : Ctx} {σ : Store} {w : World} {K : AV → Store → Prop} {v : Value} {a : AV} (hr : R E Γ σ w) (hv : VR Γ w a v) (hk : K a σ) : Res E Γ w K v w :=
  ⟨Γ, a, σ, ExtN.refl Γ w (Nat.le_refl _), hr, hv, hk⟩

theorem VR.undef_ (Γ : Ctx) (w : World) : VR Γ w (.tup []) undef := .tup [] #[] rfl (by intro j a x h; simp at h)

/-! ### Whole numbers, strings, bools -/
def binS : BinOp → Value → Value → Option Value
  | .add, .int k a, .int k' b => if k = k' then some (.int k (k.wrap (a + b))) else none
  | .sub, .int k a, .int k' b => if k = k' then some (.int k (k.wrap (a - b))) else none
  | .mul, .int k a, .int k' b => if k = k' then some (.int k (k.wrap (a * b))) else none
  | .quo, .int k a, .int k' b => if k = k' ∧ b ≠ 0 then some (.int k (k.wrap (a.tdiv b))) else none
  | .rem, .int k a, .int k' b => if k = k' ∧ b ≠ 0 then some (.int k (a.tmod b)) else none
  | .and, .int k a, .int k' b => if k = k' then some (.int k (k.wrap (BitVec.ofInt k.bits a &&& BitVec.ofInt k.bits b).toNat)) else none
  | .or, .int k a, .int k' b => if k = k' then some (.int k (k.wrap (BitVec.ofInt k.bits a ||| BitVec.ofInt k.bits b).toNat)) else none
  | .shl, .int k a, .int _ b => if 0 ≤ b then some (.int k (k.wrap (a * 2 ^ (min b.toNat k.bits)))) else none
  | .shr, .int k a, .int _ b => if 0 ≤ b then some (.int k (a.fdiv (2 ^ (min b.toNat k.bits)))) else none
  | .eql, .int k a, .int k' b => if k = k' then some (.bool (a == b)) else none
  | .neq, .int k a, .int k' b => if k = k' then some (.bool (a != b)) else none
  | .lss, .int k a, .int k' b => if k = k' then some (.bool (decide (a < b))) else none
  | .leq, .int k a, .int k' b => if k = k' then some (.bool (decide (a ≤ b))) else none
  | .gtr, .int k a, .int k' b => if k = k' then some (.bool (decide (a > b))) else none
  | .geq, .int k a, .int k' b => if k = k' then some (.bool (decide (a ≥ b))) else none
  | .add, .string a, .string b => if a.size + b.size ≤ 9223372036854775807 then some (.string (a ++ b)) else none
  | .eql, .string a, .string b => some (.bool (a.toList == b.toList))
  | .neq, .string a, .string b => some (.bool !(a.toList == b.toList))
  | .lss, .string a, .string b => some (.bool (Op.bytesLess a.toList b.toList))
  | _, _, _ => none

theorem run_binS (P : Program) {op : BinOp} {t : TypeId} {x y v : Value} {ox oy : Operand} (h : binS op x y = some v) (w : World) :
    (do eqGuard op t ox oy x y; binOp op t x y : Sem Value).run P w = .ok v w := by
  unfold binS at h
  split at h
  case h_8 =>
    split at h
    · rename_i hb
      cases h
      simp [eqGuard, binOp, Op.shift, Int.not_lt.2 hb]
    · cases h
  case h_9 =>
    split at h
    · rename_i hb
      cases h
      simp [eqGuard, binOp, Op.shift, Int.not_lt.2 hb]
    · cases h
  case h_16 =>
    split at h
    · rename_i hb
      cases h
      simp [eqGuard, binOp, Op.stringOp, IntKind.max, IntKind.signed, IntKind.bits]
      omega
    · cases h
  all_goals first
    | (split at h <;> first
        | (rename_i hk; first | (obtain ⟨rfl, hb⟩ := hk) | subst hk
           cases h
           simp_all [eqGuard, binOp, Op.intArith, Op.intDiv, Op.intBits, Op.intCmp]
           done)
        | cases h)
    | (cases h; simp [eqGuard, binOp, Op.stringOp]; done)
    | cases h
end Go.AW
end

section
set_option linter.unusedVariables false
set_option linter.unusedSimpArgs false
set_option linter.unnecessarySimpa false
namespace Go.AW
open Go

def Ctx.set (Γ : Ctx) (i : Nat) (l : Loc) : Ctx := ⟨fun j => if j = i then some l else Γ.get j, Γ.next, Γ.base⟩
def Ctx.alloc (Γ : Ctx) (l : Loc) : Ctx := ⟨fun j => if j = Γ.next then some l else Γ.get j, Γ.next + 1, Γ.base⟩

theorem R.none_next {E : Env} {Γ : Ctx} {σ : Store} {w : World} (h : R E Γ σ w) {i : Nat} (hi : σ.next ≤ i) : Γ.get i = none := by
  have hd := h.dom i
  rw [h.bnd i hi] at hd
  simpa using hd

/-- An object of the store in another place or with other content. -/
theorem R.upd {E : Env} {Γ : Ctx} {σ : Store} {w w' : World} (h : R E Γ σ w) {i : Nat} {o o' : AObj} {l l' : Loc} (hi : σ.get i = some o) (hl : Γ.get i = some l)
    (hg : w.grownBy w' l.blk) (hgen : l' = l ∨ l.gen < l'.gen) (hblk : l'.blk = l.blk ∨ ∃ b', l'.blk = some b' ∧ w.heap.size ≤ b')
    (hfx : ∀ b m, l.blk = some b → l.lim = some m → (∀ k v, k < m → w.cell? ⟨b, k, none⟩ = some v → w'.cell? ⟨b, k, none⟩ = some v) ∧ (l'.blk = some b → ∃ m', l'.lim = some m' ∧ m ≤ m')) (hlim : l'.lim = o'.lim l')
    (ho : ∀ (hx : ExtN Γ.next Γ w (Γ.set i l') w'), ObjRel E.P (Γ.set i l') w' o' l') :
    ExtN Γ.next Γ w (Γ.set i l') w' ∧ R E (Γ.set i l') (σ.set i o') w' := by
  have hown : ∀ b, b < w.heap.size → (Γ.set i l').owns b → Γ.owns b := by
    rintro b hb ⟨j, lj, hj, hjb⟩
    simp only [Ctx.set] at hj
    split at hj
    · cases hj
      rcases hblk with e | ⟨b', e, hb'⟩
      · exact ⟨i, l, hl, e ▸ hjb⟩
      · rw [e] at hjb; cases hjb; omega
    · exact ⟨j, lj, hj, hjb⟩
  have hx : ExtN Γ.next Γ w (Γ.set i l') w' := by
    refine ⟨hg.os, hg.tape, hg.output, hg.size, ?_, ?_, ?_, Nat.le_refl _, Nat.le_refl _, rfl⟩
    · intro b hb ho
      refine ⟨.inl (hg.block b hb (fun e => ho ⟨i, l, hl, e.symm⟩)), fun hc => ho (hown b hb hc)⟩
    · intro b k hb hf
      by_cases hbl : l.blk = some b
      · obtain ⟨m, h1, h2⟩ := hf i l hl hbl
        obtain ⟨h3, h4⟩ := hfx b m hbl h1
        refine ⟨fun v hv => h3 k v h2 hv, ?_⟩
        intro j lj hj hjb
        simp only [Ctx.set] at hj
        split at hj
        · cases hj
          obtain ⟨m', h5, h6⟩ := h4 hjb
          exact ⟨m', h5, by omega⟩
        · rename_i e; exact absurd (h.inj j i lj l b hj hl hjb hbl) e
      · refine ⟨fun v hv => by rw [World.cell?_of_block (w := w) (hg.block b hb fun e => hbl e.symm)]; exact hv, ?_⟩
        intro j lj hj hjb
        simp only [Ctx.set] at hj
        split at hj
        · cases hj
          rcases hblk with e | ⟨b', e, hb'⟩
          · exact absurd (e ▸ hjb) hbl
          · rw [e] at hjb; cases hjb; omega
        · exact hf j lj hj hjb
    · intro j lj hj hjl
      simp only [Ctx.set] at hjl
      split at hjl
      · rename_i e; subst e; cases hjl
        rcases hgen with e | e
        · exact ⟨l, hl, by rw [e]; exact Nat.le_refl _, fun _ => e⟩
        · exact ⟨l, hl, Nat.le_of_lt e, fun e' => by omega⟩
      · exact ⟨lj, hjl, Nat.le_refl _, fun _ => rfl⟩
  refine ⟨hx, ⟨h.next, ?_, ?_, ?_, ?_, ?_, h.gbel, Nat.le_trans h.base hg.size, ?_⟩⟩
  · intro j
    simp only [Ctx.set, Store.set]
    split
    · rfl
    · exact h.dom j
  · intro j hj
    simp only [Store.set] at hj ⊢
    have hne : j ≠ i := by
      intro e; subst e
      have hd := h.bnd j hj
      rw [hd] at hi; cases hi
    rw [if_neg hne]
    exact h.bnd j hj
  · have hnew : ∀ j lj b, j ≠ i → Γ.get j = some lj → lj.blk = some b → l'.blk = some b → False := by
      intro j lj b hne hj hjb hb
      rcases hblk with e | ⟨b', e, hb'⟩
      · exact hne (h.inj j i lj l b hj hl hjb (e ▸ hb))
      · rw [e] at hb; cases hb
        have := h.blk_lt ⟨j, lj, hj, hjb⟩
        omega
    intro j k lj lk b hj hk hjb hkb
    simp only [Ctx.set] at hj hk
    split at hj
    · rename_i e; cases hj
      split at hk
      · rename_i e'; omega
      · rename_i e'; exact (hnew k lk b e' hk hkb hjb).elim
    · rename_i e
      split at hk
      · cases hk; exact (hnew j lj b e hj hjb hkb).elim
      · exact h.inj j k lj lk b hj hk hjb hkb
  · intro j oj lj hoj hlj
    simp only [Store.set, Ctx.set] at hoj hlj
    split at hoj
    · rename_i e; cases hoj; rw [if_pos e] at hlj; cases hlj; exact ho hx
    · rename_i e
      rw [if_neg e] at hlj
      have hr := h.objs j oj lj hoj hlj
      have hsame : ∀ b, lj.blk = some b → w'.heap[b]? = w.heap[b]? := fun b hb =>
        hg.block b (h.blk_lt ⟨j, lj, hlj, hb⟩) (fun e' => e (h.inj j i lj l b hlj hl hb e'.symm))
      cases oj with
      | arr T g es =>
        simp only [ObjRel] at hr ⊢
        obtain ⟨h1, h2, h3, h4, h5, h6⟩ := hr
        refine ⟨h1, h2, h3, h4, h5, ?_⟩
        cases hb : lj.blk with
        | none => simp only [hb] at h6 ⊢; exact h6
        | some b =>
          simp only [hb] at h6 ⊢
          obtain ⟨xs, fr, q1, q2, q3, q4⟩ := h6
          refine ⟨xs, fr, (hsame b hb).trans q1, q2, q3, fun k e j x hk hj => ?_⟩
          obtain ⟨u, u1, u2, u3⟩ := q4 k e j x hk hj
          exact ⟨u, u1, u2, u3.ext hx⟩
      | map ents born clock =>
        obtain ⟨h0, b, es, q1, q2, q3, q4, q5⟩ := hr
        exact ⟨h0, b, es, q1, (hsame b q1).trans q2, q3, fun k e en hk hen => ⟨(q4 k e en hk hen).1, (q4 k e en hk hen).2.ext hx⟩, q5⟩
      | lp b L vs =>
        obtain ⟨h0, q1, q2, q3, q4⟩ := hr
        exact ⟨h0, q1, (hsame b q1).trans q2, q3, fun t a v h1 h2 => (q4 t a v h1 h2).ext hx⟩
      | it o =>
        obtain ⟨h0, b, q1, q2, q3⟩ := hr
        exact ⟨h0, b, q1, (hsame b q1).trans q2, q3⟩
      | mi m since seen last =>
        obtain ⟨h0, b, bm, q1, q2, q3⟩ := hr
        exact ⟨h0, b, bm, q1, (hsame b q1).trans q2, q3.ext hx⟩
      | log T m =>
        simp only [ObjRel] at hr ⊢
        obtain ⟨h1, h2, h3, h4, h5⟩ := hr
        refine ⟨h1, h2, h3, h4, ?_⟩
        cases hb : lj.blk with
        | none => simp only [hb] at h5 ⊢; exact h5
        | some b =>
          simp only [hb] at h5 ⊢
          obtain ⟨xs, fr, q1, q2⟩ := h5
          exact ⟨xs, fr, (hsame b hb).trans q1, q2⟩
  · exact fun g cs hgc => (h.glob g cs hgc).ext hx
  · intro j oj lj hoj hlj
    simp only [Store.set, Ctx.set] at hoj hlj
    split at hoj
    · rename_i e; cases hoj; rw [if_pos e] at hlj; cases hlj; exact hlim
    · rename_i e; rw [if_neg e] at hlj; exact h.lims j oj lj hoj hlj

/-- A new object. -/
theorem R.new {E : Env} {Γ : Ctx} {σ : Store} {w w' : World} (h : R E Γ σ w) {o' : AObj} {l' : Loc}
    (hg : w.grownBy w' none) (hblk : l'.blk = none ∨ ∃ b', l'.blk = some b' ∧ w.heap.size ≤ b') (hlim : l'.lim = o'.lim l')
    (ho : ∀ (hx : ExtN Γ.next Γ w (Γ.alloc l') w'), ObjRel E.P (Γ.alloc l') w' o' l') :
    ExtN Γ.next Γ w (Γ.alloc l') w' ∧ R E (Γ.alloc l') (σ.alloc o') w' := by
  have hnn := h.none_next (Nat.le_refl σ.next)
  have hown : ∀ b, b < w.heap.size → (Γ.alloc l').owns b → Γ.owns b := by
    rintro b hb ⟨j, lj, hj, hjb⟩
    simp only [Ctx.alloc] at hj
    split at hj
    · cases hj
      rcases hblk with e | ⟨b', e, hb'⟩
      · rw [e] at hjb; cases hjb
      · rw [e] at hjb; cases hjb; omega
    · exact ⟨j, lj, hj, hjb⟩
  have hx : ExtN Γ.next Γ w (Γ.alloc l') w' := by
    refine ⟨hg.os, hg.tape, hg.output, hg.size, ?_, ?_, ?_, Nat.le_refl _, Nat.le_succ _, rfl⟩
    · intro b hb ho
      exact ⟨.inl (hg.block b hb (by simp)), fun hc => ho (hown b hb hc)⟩
    · intro b k hb hf
      refine ⟨fun v hv => by rw [World.cell?_of_block (w := w) (hg.block b hb (by simp))]; exact hv, ?_⟩
      intro j lj hj hjb
      simp only [Ctx.alloc] at hj
      split at hj
      · cases hj
        rcases hblk with e | ⟨b', e, hb'⟩
        · rw [e] at hjb; cases hjb
        · rw [e] at hjb; cases hjb; omega
      · exact hf j lj hj hjb
    · intro j lj hj hjl
      simp only [Ctx.alloc] at hjl
      rw [if_neg (by omega)] at hjl
      exact ⟨lj, hjl, Nat.le_refl _, fun _ => rfl⟩
  refine ⟨hx, ⟨?_, ?_, ?_, ?_, ?_, ?_, h.gbel, Nat.le_trans h.base hg.size, ?_⟩⟩
  · simp [Ctx.alloc, Store.alloc, h.next]
  · intro j
    simp only [Ctx.alloc, Store.alloc, h.next]
    split
    · rfl
    · exact h.dom j
  · intro j hj
    simp only [Store.alloc] at hj ⊢
    rw [if_neg (by omega)]
    exact h.bnd j (by omega)
  · have hnew : ∀ j lj b, Γ.get j = some lj → lj.blk = some b → l'.blk = some b → False := by
      intro j lj b hj hjb hb
      rcases hblk with e | ⟨b', e, hb'⟩
      · rw [e] at hb; cases hb
      · rw [e] at hb; cases hb
        have := h.blk_lt ⟨j, lj, hj, hjb⟩
        omega
    intro j k lj lk b hj hk hjb hkb
    simp only [Ctx.alloc] at hj hk
    split at hj
    · rename_i e; cases hj
      split at hk
      · rename_i e'; omega
      · exact (hnew k lk b hk hkb hjb).elim
    · split at hk
      · cases hk; exact (hnew j lj b hj hjb hkb).elim
      · exact h.inj j k lj lk b hj hk hjb hkb
  · intro j oj lj hoj hlj
    simp only [Store.alloc, Ctx.alloc, h.next] at hoj hlj
    split at hoj
    · rename_i e; cases hoj; rw [if_pos e] at hlj; cases hlj; exact ho hx
    · rename_i e
      rw [if_neg e] at hlj
      have hr := h.objs j oj lj hoj hlj
      have hsame : ∀ b, lj.blk = some b → w'.heap[b]? = w.heap[b]? := fun b hb =>
        hg.block b (h.blk_lt ⟨j, lj, hlj, hb⟩) (by simp)
      cases oj with
      | arr T g es =>
        simp only [ObjRel] at hr ⊢
        obtain ⟨h1, h2, h3, h4, h5, h6⟩ := hr
        refine ⟨h1, h2, h3, h4, h5, ?_⟩
        cases hb : lj.blk with
        | none => simp only [hb] at h6 ⊢; exact h6
        | some b =>
          simp only [hb] at h6 ⊢
          obtain ⟨xs, fr, q1, q2, q3, q4⟩ := h6
          refine ⟨xs, fr, (hsame b hb).trans q1, q2, q3, fun k e j x hk hj => ?_⟩
          obtain ⟨u, u1, u2, u3⟩ := q4 k e j x hk hj
          exact ⟨u, u1, u2, u3.ext hx⟩
      | map ents born clock =>
        obtain ⟨h0, b, es, q1, q2, q3, q4, q5⟩ := hr
        exact ⟨h0, b, es, q1, (hsame b q1).trans q2, q3, fun k e en hk hen => ⟨(q4 k e en hk hen).1, (q4 k e en hk hen).2.ext hx⟩, q5⟩
      | lp b L vs =>
        obtain ⟨h0, q1, q2, q3, q4⟩ := hr
        exact ⟨h0, q1, (hsame b q1).trans q2, q3, fun t a v h1 h2 => (q4 t a v h1 h2).ext hx⟩
      | it o =>
        obtain ⟨h0, b, q1, q2, q3⟩ := hr
        exact ⟨h0, b, q1, (hsame b q1).trans q2, q3⟩
      | mi m since seen last =>
        obtain ⟨h0, b, bm, q1, q2, q3⟩ := hr
        exact ⟨h0, b, bm, q1, (hsame b q1).trans q2, q3.ext hx⟩
      | log T m =>
        simp only [ObjRel] at hr ⊢
        obtain ⟨h1, h2, h3, h4, h5⟩ := hr
        refine ⟨h1, h2, h3, h4, ?_⟩
        cases hb : lj.blk with
        | none => simp only [hb] at h5 ⊢; exact h5
        | some b =>
          simp only [hb] at h5 ⊢
          obtain ⟨xs, fr, q1, q2⟩ := h5
          exact ⟨xs, fr, (hsame b hb).trans q1, q2⟩
  · exact fun g cs hgc => (h.glob g cs hgc).ext hx
  · intro j oj lj hoj hlj
    simp only [Store.alloc, Ctx.alloc, h.next] at hoj hlj
    split at hoj
    · rename_i e; cases hoj; rw [if_pos e] at hlj; cases hlj; exact hlim
    · rename_i e; rw [if_neg e] at hlj; exact h.lims j oj lj hoj hlj

/-! ### Cells -/
/-- The cells from an address on stand for these abstract cells. -/
def CellsAt (Γ : Ctx) (w : World) (b o : Nat) (cs : List AV) : Prop :=
  ∀ (j : Nat) (x : AV), cs[j]? = some x → ∃ u, w.cell? ⟨b, o + j, none⟩ = some u ∧ u.oneCell' = true ∧ VR Γ w x u

theorem CellsAt.list {Γ : Ctx} {w : World} {b : Nat} : ∀ {cs : List AV} {o : Nat}, CellsAt Γ w b o cs →
    ∃ us : List Value, us.length = cs.length ∧ (∀ (j : Nat) (u : Value), us[j]? = some u → w.cell? ⟨b, o + j, none⟩ = some u) ∧ (∀ u ∈ us, u.oneCell' = true) ∧
      ∀ (j : Nat) (x : AV) (u : Value), cs[j]? = some x → us[j]? = some u → VR Γ w x u
  | [], o, _ => ⟨[], rfl, by simp, by simp, by simp⟩
  | x :: cs, o, h => by
    obtain ⟨u, h1, h2, h3⟩ := h 0 x rfl
    have h' : CellsAt Γ w b (o + 1) cs := fun j y hy => by
      have := h (j + 1) y (by simpa using hy)
      rwa [show o + (j + 1) = o + 1 + j by omega] at this
    obtain ⟨us, a1, a2, a3, a4⟩ := h'.list
    refine ⟨u :: us, by simp [a1], ?_, ?_, ?_⟩
    · intro j v hv
      cases j with
      | zero => simp at hv; subst hv; simpa using h1
      | succ j => rw [show o + (j + 1) = o + 1 + j by omega]; exact a2 j v (by simpa using hv)
    · intro v hv
      rcases List.mem_cons.1 hv with rfl | hv
      · exact h2
      · exact a3 v hv
    · intro j y v hy hv
      cases j with
      | zero => simp at hy hv; subst hy; subst hv; exact h3
      | succ j => exact a4 j y v (by simpa using hy) (by simpa using hv)

theorem CellsAt.drop {Γ : Ctx} {w : World} {b o : Nat} {cs : List AV} (h : CellsAt Γ w b o cs) (n : Nat) : CellsAt Γ w b (o + n) (cs.drop n) := by
  intro j x hx
  have := h (n + j) x (by simpa [List.getElem?_drop] using hx)
  rwa [show o + (n + j) = o + n + j by omega] at this

theorem CellsAt.take {Γ : Ctx} {w : World} {b o : Nat} {cs : List AV} (h : CellsAt Γ w b o cs) (n : Nat) : CellsAt Γ w b o (cs.take n) := by
  intro j x hx
  rw [List.getElem?_take] at hx
  split at hx
  · exact h j x hx
  · cases hx

theorem addr_add (b o j : Nat) : (⟨b, o, none⟩ : Addr).add j = ⟨b, o + j, none⟩ := by unfold Addr.add; split <;> simp_all

/-- A pointer into memory that is written no more. -/
theorem VR.pp_cells {Γ : Ctx} {w : World} {cs : List AV} {v : Value} (h : VR Γ w (.pp cs) v) : ∃ b o, v = .pointer (some ⟨b, o, none⟩) ∧ (∀ j, j < cs.length → Γ.fixd b (o + j)) ∧ b < w.heap.size ∧ CellsAt Γ w b o cs := by
  cases h with
  | pp cs b o us hb hw h1 h => exact ⟨b, o, rfl, fun j hj => (hw j _ (List.getElem?_eq_getElem hj)).2, hb, fun j x hx => ⟨us j, (hw j x hx).1, h1 j x hx, h j x hx⟩⟩

theorem VR.pp_of {Γ : Ctx} {w : World} {cs : List AV} {b o : Nat} (hb : ∀ j, j < cs.length → Γ.fixd b (o + j)) (hlt : b < w.heap.size) (h : CellsAt Γ w b o cs) : VR Γ w (.pp cs) (.pointer (some ⟨b, o, none⟩)) := by
  obtain ⟨us, h1, h2, h3, h4⟩ := h.list
  have hlen : ∀ j x, cs[j]? = some x → ∃ u, us[j]? = some u := fun j x hx => by
    have : j < us.length := by rw [h1]; exact (List.getElem?_eq_some_iff.1 hx).1
    exact ⟨us[j], List.getElem?_eq_getElem this⟩
  refine .pp cs b o (fun j => us.getD j Go.undef) hlt ?_ ?_ ?_
  · intro j x hx
    obtain ⟨u, hu⟩ := hlen j x hx
    simp only [List.getD, hu, Option.getD_some]
    exact ⟨h2 j u hu, hb j (List.getElem?_eq_some_iff.1 hx).1⟩
  · intro j x hx
    obtain ⟨u, hu⟩ := hlen j x hx
    simp only [List.getD, hu, Option.getD_some]
    exact h3 u (List.mem_of_getElem? hu)
  · intro j x hx
    obtain ⟨u, hu⟩ := hlen j x hx
    simp only [List.getD, hu, Option.getD_some]
    exact h4 j x u hx hu

/-- A pointer into an object of the store. -/
theorem R.rp_cells {E : Env} {Γ : Ctx} {σ : Store} {w : World} (hr : R E Γ σ w) {i g k off : Nat} {v : Value} (h : VR Γ w (.rp i g k off) v) {T : TypeId} {es : List AV} {e : AV}
    (hi : σ.get i = some (.arr T g es)) (hk : es[k]? = some e) :
    ∃ l b, Γ.get i = some l ∧ l.blk = some b ∧ l.gen = g ∧ v = .pointer (some ⟨b, k * l.sz + off, none⟩) ∧ CellsAt Γ w b (k * l.sz + off) (e.cells.drop off) := by
  obtain ⟨l, hl, ho, _⟩ := hr.loc hi
  cases h with
  | rp i g k off a hlt h =>
    simp only [ObjRel] at ho
    obtain ⟨h1, h2, h3, h4, h5, h6⟩ := ho
    obtain ⟨b, hb, rfl⟩ := (h l hl).2 h1
    refine ⟨l, b, hl, hb, h1, rfl, ?_⟩
    simp only [hb] at h6
    obtain ⟨xs, fr, q1, q2, q3, q4⟩ := h6
    refine CellsAt.drop (o := k * l.sz) ?_ off
    intro j x hx
    obtain ⟨u, u1, u2, u3⟩ := q4 k e j x hk hx
    exact ⟨u, by simp [World.cell?, q1, u1], u2, u3⟩

theorem VR.agg_of {Γ : Ctx} {w : World} {cs : List AV} {us : List Value} (h1 : us.length = cs.length) (h3 : ∀ u ∈ us, u.oneCell' = true) (h4 : ∀ (j : Nat) (x : AV) (u : Value), cs[j]? = some x → us[j]? = some u → VR Γ w x u) :
    VR Γ w (.agg cs) (.agg us.toArray) := by
  refine .agg cs _ (by simp [h1]) ?_ ?_
  · intro j x hx
    exact h3 x (List.mem_of_getElem? (by simpa using hx))
  · intro j a x ha hx
    exact h4 j a x ha (by simpa using hx)

/-! ### Loading -/
def aLoadC (P : Program) (t : TypeId) (cs : List AV) (K : AV → Prop) : Prop :=
  tk P t ≠ .other ∧ if (tk P t).agg then tsz P t ≠ 0 ∧ tsz P t ≤ cs.length ∧ K (.agg (cs.take (tsz P t))) else match cs with
    | x :: _ => K x
    | [] => False

theorem aLoadC_ok {P : Program} {Γ : Ctx} {w : World} {t : TypeId} {b o : Nat} {cs : List AV} {K : AV → Prop} (hc : CellsAt Γ w b o cs) (h : aLoadC P t cs K) :
    ∃ v a, (loadVar t ⟨b, o, none⟩).run P w = .ok v w ∧ VR Γ w a v ∧ K a := by
  obtain ⟨ht, h⟩ := h
  have hagg := run_isAgg (P := P) ht w
  split at h
  · rename_i hA
    obtain ⟨h0, hle, hk⟩ := h
    obtain ⟨us, a1, a2, a3, a4⟩ := (hc.take (tsz P t)).list
    have hlen : us.length = tsz P t := by rw [a1, List.length_take]; omega
    have hl := run_loadCells_list (P := P) w ⟨b, o, none⟩ us (fun j v hv => by rw [addr_add]; exact a2 j v hv)
    rw [hlen] at hl
    have hs := run_tsz h0 w
    refine ⟨.agg us.toArray, _, ?_, VR.agg_of a1 a3 a4, hk⟩
    simp [loadVar, hagg, hA, hs, hl]
  · rename_i hA
    cases cs with
    | nil => exact h.elim
    | cons x cs =>
      obtain ⟨u, u1, u2, u3⟩ := hc 0 x rfl
      refine ⟨u, x, ?_, u3, h⟩
      simp only [Nat.add_zero] at u1
      simp [loadVar, hagg, hA, u1]

def aLoad (E : Env) (t : TypeId) (x : AV) (σ : Store) (K : AV → Prop) : Prop :=
  match x with
  | .pp cs => aLoadC E.P t cs K
  | .rp i g k off => match σ.get i with
    | some (.arr _ g' es) => g = g' ∧ match es[k]? with
      | some e => aLoadC E.P t (e.cells.drop off) K
      | none => False
    | _ => False
  | _ => False

theorem aLoad_ok {E : Env} {Γ : Ctx} {σ : Store} {w : World} {t : TypeId} {x : AV} {xv : Value} {K : AV → Store → Prop} (hr : R E Γ σ w) (hx : VR Γ w x xv) (h : aLoad E t x σ fun a => K a σ) :
    Up E Γ w K ((do pure (.value (← Instr.loadAt t xv)) : Sem Next).run E.P w) := by
  unfold aLoad at h
  split at h
  · obtain ⟨b, o, rfl, h1, h2, h3⟩ := hx.pp_cells
    obtain ⟨v, a, r1, r2, r3⟩ := aLoadC_ok h3 h
    simp only [Instr.loadAt, Instr.sureAddr, Sem.run_bind, Sem.run_pure, Result.andThen_ok, r1, Up]
    exact Res.same hr r2 r3
  · rename_i i g k off
    split at h
    · rename_i T g' es hi
      obtain ⟨rfl, h⟩ := h
      split at h
      · rename_i e hk
        obtain ⟨l, b, _, _, _, rfl, hc⟩ := hr.rp_cells hx hi hk
        obtain ⟨v, a, r1, r2, r3⟩ := aLoadC_ok hc h
        simp only [Instr.loadAt, Instr.sureAddr, Sem.run_bind, Sem.run_pure, Result.andThen_ok, r1, Up]
        exact Res.same hr r2 r3
      · exact h.elim
    · exact h.elim
  · exact h.elim
end Go.AW
end

section
set_option linter.unusedVariables false
set_option linter.unusedSimpArgs false
set_option linter.unnecessarySimpa false
namespace Go.AW
open Go

theorem Up.value {E : Env} {Γ : Ctx} {w w' : World} {K : AV → Store → Prop} {s : Sem Value} {v : Value} (h : s.run E.P w = .ok v w') (hr : Res E Γ w K v w') :
    Up E Γ w K ((do pure (.value (← s)) : Sem Next).run E.P w) := by
  simp only [Sem.run_bind, h, Result.andThen_ok, Sem.run_pure, Up]
  exact hr

theorem Up.unit {E : Env} {Γ : Ctx} {w w' : World} {K : AV → Store → Prop} {s : Sem Unit} (h : s.run E.P w = .ok () w') (hr : Res E Γ w K undef w') :
    Up E Γ w K ((do s; pure .skip : Sem Next).run E.P w) := by
  simp only [Sem.run_bind, h, Result.andThen_ok, Sem.run_pure, Up]
  exact hr

/-! ### Cells of a value -/
/-- May it lie in memory? -/
def AV.ok : AV → Bool
  | .junk => false
  | .tup _ => false
  | _ => true

theorem VR.cells {Γ : Ctx} {w : World} {a : AV} {v : Value} (h : VR Γ w a v) (ha : a.ok = true) :
    a.cells.length = v.cells.size ∧ (∀ u ∈ v.cells, u.oneCell' = true) ∧ ∀ (j : Nat) (x : AV) (u : Value), a.cells[j]? = some x → v.cells[j]? = some u → VR Γ w x u := by
  cases h with
  | junk => simp [AV.ok] at ha
  | tup => simp [AV.ok] at ha
  | agg cs xs hs h1 h =>
    refine ⟨hs, ?_, h⟩
    intro u hu
    obtain ⟨j, hj, rfl⟩ := Array.getElem_of_mem hu
    exact h1 j _ (Array.getElem?_eq_getElem hj)
  | c v h =>
    have hc : v.cells = #[v] := by cases v <;> simp_all [Value.cells, Value.oneCell']
    refine ⟨by simp [AV.cells, hc], by simpa [hc] using h, ?_⟩
    intro j x u hx hu
    cases j with
    | zero => simp [AV.cells, hc] at hx hu; subst hx; subst hu; exact .c _ h
    | succ j => simp [AV.cells] at hx
  | nl a =>
    refine ⟨by simp [AV.cells, Value.cells], by simp [Value.cells, Value.oneCell'], ?_⟩
    intro j x u hx hu
    cases j with
    | zero => simp [AV.cells, Value.cells] at hx hu; subst hx; subst hu; exact .nl a
    | succ j => simp [AV.cells] at hx
  | ps es a cap b o us hc ha' hw h1 h =>
    refine ⟨by simp [AV.cells, Value.cells], by simp [Value.cells, Value.oneCell'], ?_⟩
    intro j x u hx hu
    cases j with
    | zero => simp [AV.cells, Value.cells] at hx hu; subst hx; subst hu; exact .ps es a cap b o us hc ha' hw h1 h
    | succ j => simp [AV.cells] at hx
  | fs l b cap hb hc hh =>
    refine ⟨by simp [AV.cells, Value.cells], by simp [Value.cells, Value.oneCell'], ?_⟩
    intro j x u hx hu
    cases j with
    | zero => simp [AV.cells, Value.cells] at hx hu; subst hx; subst hu; exact .fs l b cap hb hc hh
    | succ j => simp [AV.cells] at hx
  | pp cs b o us hb hw h1 h =>
    refine ⟨by simp [AV.cells, Value.cells], by simp [Value.cells, Value.oneCell'], ?_⟩
    intro j x u hx hu
    cases j with
    | zero => simp [AV.cells, Value.cells] at hx hu; subst hx; subst hu; exact .pp cs b o us hb hw h1 h
    | succ j => simp [AV.cells] at hx
  | rs i g off len a cap hi hl h =>
    refine ⟨by simp [AV.cells, Value.cells], by simp [Value.cells, Value.oneCell'], ?_⟩
    intro j x u hx hu
    cases j with
    | zero => simp [AV.cells, Value.cells] at hx hu; subst hx; subst hu; exact .rs i g off len a cap hi hl h
    | succ j => simp [AV.cells] at hx
  | rc i g off len cap a hi hl h =>
    refine ⟨by simp [AV.cells, Value.cells], by simp [Value.cells, Value.oneCell'], ?_⟩
    intro j x u hx hu
    cases j with
    | zero => simp [AV.cells, Value.cells] at hx hu; subst hx; subst hu; exact .rc i g off len cap a hi hl h
    | succ j => simp [AV.cells] at hx
  | lg i es v h1 h2 h3 =>
    cases h2 with
    | rs i g off len a cap hi hl h =>
      refine ⟨by simp [AV.cells, Value.cells], by simp [Value.cells, Value.oneCell'], ?_⟩
      intro j x u hx hu
      cases j with
      | zero => simp [AV.cells, Value.cells] at hx hu; subst hx; subst hu; exact .lg i es _ h1 (.rs i _ 0 _ a cap hi hl h) h3
      | succ j => simp [AV.cells] at hx
  | rp i g k off a hi h =>
    refine ⟨by simp [AV.cells, Value.cells], by simp [Value.cells, Value.oneCell'], ?_⟩
    intro j x u hx hu
    cases j with
    | zero => simp [AV.cells, Value.cells] at hx hu; subst hx; subst hu; exact .rp i g k off a hi h
    | succ j => simp [AV.cells] at hx
  | mp i r hi h =>
    refine ⟨by simp [AV.cells, Value.cells], by simp [Value.cells, Value.oneCell'], ?_⟩
    intro j x u hx hu
    cases j with
    | zero => simp [AV.cells, Value.cells] at hx hu; subst hx; subst hu; exact .mp i r hi h
    | succ j => simp [AV.cells] at hx
  | fn f first cap xs ys hx hy h h' =>
    refine ⟨by simp [AV.cells, Value.cells], by simp [Value.cells, Value.oneCell'], ?_⟩
    intro j x u hx' hu
    cases j with
    | zero => simp [AV.cells, Value.cells] at hx' hu; subst hx'; subst hu; exact .fn f first cap xs ys hx hy h h'
    | succ j => simp [AV.cells] at hx'
  | ifc t a v h =>
    refine ⟨by simp [AV.cells, Value.cells], by simp [Value.cells, Value.oneCell'], ?_⟩
    intro j x u hx hu
    cases j with
    | zero => simp [AV.cells, Value.cells] at hx hu; subst hx; subst hu; exact .ifc t a v h
    | succ j => simp [AV.cells] at hx

/-! ### A store -/
/-- An element some of whose cells are put. -/
def AV.put (e : AV) (off : Nat) (v : AV) : Option AV :=
  match e, v with
  | .agg cs, v => if off + v.cells.length ≤ cs.length then some (.agg (cs.take off ++ v.cells ++ cs.drop (off + v.cells.length))) else none
  | _, .agg _ => none
  | _, v => if off = 0 then some v else none

theorem AV.put_cells {e v e' : AV} {off : Nat} (h : e.put off v = some e') : off + v.cells.length ≤ e.cells.length ∧ e'.cells = e.cells.take off ++ v.cells ++ e.cells.drop (off + v.cells.length) := by
  unfold AV.put at h
  split at h
  · split at h
    · rename_i hle; cases h; exact ⟨hle, rfl⟩
    · cases h
  · cases h
  · rename_i h1 h2
    split at h
    · rename_i h0; cases h
      have hv : v.cells = [v] := by cases v <;> simp_all [AV.cells]
      have he : e.cells = [e] := by cases e <;> simp_all [AV.cells]
      subst h0
      simp [hv, he]
    · cases h

def aStore (E : Env) (t : TypeId) (x v : AV) (σ : Store) (K : Store → Prop) : Prop :=
  match x with
  | .rp i g k off => match σ.get i with
    | some (.arr T g' es) => g = g' ∧ v.ok = true ∧ tsz E.P t ≠ 0 ∧ tsz E.P t = v.cells.length ∧ match (es[k]?).bind fun e => e.put off v with
      | some e' => K (σ.set i (.arr T g' (es.set k e')))
      | none => False
    | _ => False
  | _ => False

theorem splice_get {α : Type} (l vs : List α) (A m : Nat) (h : A + vs.length ≤ l.length) :
    (l.take A ++ vs ++ l.drop (A + vs.length))[m]? = if m < A then l[m]? else if m < A + vs.length then vs[m - A]? else l[m]? := by
  have hA : (l.take A).length = A := by rw [List.length_take]; omega
  by_cases h1 : m < A
  · rw [if_pos h1, List.append_assoc, List.getElem?_append_left (by omega), List.getElem?_take, if_pos h1]
  · rw [if_neg h1]
    by_cases h2 : m < A + vs.length
    · rw [if_pos h2, List.append_assoc, List.getElem?_append_right (by omega), hA, List.getElem?_append_left (by omega)]
    · rw [if_neg h2, List.getElem?_append_right (by simp; omega), List.getElem?_drop]
      congr 1
      simp
      omega

theorem run_storeCells_free (P : Program) (g o : Nat) (t : TypeId) (fz : Nat × Nat) : ∀ (vs : List Value) (i : Nat) (cur : Array Value) (w : World), w.heap[g]? = some (.cells cur t fz) → (fz.1 = fz.2 ∨ cur.size ≤ fz.1) →
    o + i + vs.length ≤ cur.size → (∀ v ∈ vs, v.oneCell' = true) →
    (storeCells ⟨g, o, none⟩ vs i).run P w = .ok () (w.setRow g (cur.toList.take (o + i) ++ vs ++ cur.toList.drop (o + i + vs.length)).toArray)
  | [], i, cur, w, hg, _, _, _ => by
    simp only [storeCells, List.append_nil, List.length_nil, Nat.add_zero, List.take_append_drop, Array.toArray_toList]
    rw [setRow_self w g cur t fz hg]
    rfl
  | v :: rest, i, cur, w, hg, hfz, hl, h1 => by
    have hi : o + i < cur.size := by simp at hl; omega
    have hcell : w.cell? ⟨g, o + i, none⟩ = some cur[o + i] := by simp [World.cell?, hg, hi]
    have hfro : w.frozen? ⟨g, o + i, none⟩ = false := by
      obtain ⟨lo, hi'⟩ := fz
      simp only [World.frozen?, hg, Bool.and_eq_false_iff, decide_eq_false_iff_not]
      simp only at hfz
      omega
    have hst : (store ((⟨g, o, none⟩ : Addr).add i) v).run P w = .ok () (w.setRow g (cur.setIfInBounds (o + i) v)) := by
      rw [addr_add, run_store P w _ v _ (h1 v (by simp)), hcell]
      simp [hfro, setCell_eq_setRow w g (o + i) cur t fz v hg]
    have ih := run_storeCells_free P g o t fz rest (i + 1) (cur.setIfInBounds (o + i) v) (w.setRow g (cur.setIfInBounds (o + i) v)) (setRow_heap w g cur _ t _ hg) (by simpa using hfz) (by simp at hl ⊢; omega)
      (fun x hx => h1 x (by simp [hx]))
    simp only [storeCells, Sem.run_bind, hst, Result.andThen_ok, ih, setRow_setRow]
    congr 3
    have e := list_seg_step cur.toList (o + i) v rest (by simp at hl ⊢; omega)
    simpa [Array.toList_setIfInBounds, Nat.add_assoc] using e

theorem aStore_ok {E : Env} {Γ : Ctx} {σ : Store} {w : World} {t : TypeId} {x v : AV} {xv vv : Value} {K : AV → Store → Prop} (hr : R E Γ σ w) (hx : VR Γ w x xv) (hv : VR Γ w v vv)
    (h : aStore E t x v σ fun σ' => K (.tup []) σ') : Up E Γ w K ((do Instr.storeAt t xv vv; pure .skip : Sem Next).run E.P w) := by
  unfold aStore at h
  split at h
  · rename_i i g k off
    split at h
    · rename_i T g' es hi
      obtain ⟨rfl, hok, hnz, hsz, h⟩ := h
      split at h
      · rename_i e' hput
        cases hk : es[k]? with
        | none => simp [hk] at hput
        | some e =>
          simp only [hk, Option.bind_some] at hput
          obtain ⟨l, b, hl, hb, hgen, rfl, _⟩ := hr.rp_cells hx hi hk
          obtain ⟨c1, c2, c3⟩ := hv.cells hok
          obtain ⟨p1, p2⟩ := AV.put_cells hput
          obtain ⟨l', hl', ho, hlt⟩ := hr.loc hi
          have hll : l' = l := by rw [hl] at hl'; exact (Option.some.inj hl').symm
          subst hll
          simp only [ObjRel, hb] at ho
          obtain ⟨o1, o2, o3, o4, o5, xs, fr, q1, q2, q3, q4⟩ := ho
          have hel : e.cells.length = l'.sz := o3 e (List.mem_of_getElem? hk)
          have hkl : k < es.length := (List.getElem?_eq_some_iff.1 hk).1
          have hspace : k * l'.sz + l'.sz ≤ xs.size := by
            rw [q3, ← Nat.succ_mul]; exact Nat.mul_le_mul_right _ (by omega)
          have hvl : vv.cells.toList.length = v.cells.length := by simp [c1]
          have hst := run_storeCells_free E.P b (k * l'.sz + off) T fr vv.cells.toList 0 xs w q1 (q2.imp id And.left) (by rw [hvl]; omega) (fun u hu => c2 u (by simpa using hu))
          simp only [Nat.add_zero, hvl] at hst
          have hsv : (storeVar t ⟨b, k * l'.sz + off, none⟩ vv).run E.P w = .ok () (w.setRow b (xs.toList.take (k * l'.sz + off) ++ vv.cells.toList ++ xs.toList.drop (k * l'.sz + off + v.cells.length)).toArray) := by
            have hs : (sizeOf t).run E.P w = .ok (tsz E.P t) w := run_tsz hnz w
            simp [storeVar, hs, hsz, c1, hst]
          refine Up.unit (w' := w.setRow b (xs.toList.take (k * l'.sz + off) ++ vv.cells.toList ++ xs.toList.drop (k * l'.sz + off + v.cells.length)).toArray) (by simpa [Instr.storeAt, Instr.sureAddr] using hsv) ?_
          have hg : w.grownBy (w.setRow b (xs.toList.take (k * l'.sz + off) ++ vv.cells.toList ++ xs.toList.drop (k * l'.sz + off + v.cells.length)).toArray) l'.blk :=
            ⟨rfl, rfl, rfl, by simp, fun j _ hj => setRow_other w b j _ (fun e => hj (by rw [hb, e]))⟩
          have key : ∀ (hx : ExtN Γ.next Γ w (Γ.set i l') (w.setRow b (xs.toList.take (k * l'.sz + off) ++ vv.cells.toList ++ xs.toList.drop (k * l'.sz + off + v.cells.length)).toArray)),
              ObjRel E.P (Γ.set i l') (w.setRow b (xs.toList.take (k * l'.sz + off) ++ vv.cells.toList ++ xs.toList.drop (k * l'.sz + off + v.cells.length)).toArray) (.arr T g (es.set k e')) l' := by
            intro hx
            have he' : e'.cells.length = l'.sz := by
              rw [p2]; simp; omega
            simp only [ObjRel, hb]
            refine ⟨o1, o2, ?_, by simpa using o4, o5, _, fr, setRow_heap w b xs _ T fr q1, ?_, ?_, ?_⟩
            · intro e2 he2
              rcases List.mem_or_eq_of_mem_set he2 with h' | rfl
              · exact o3 e2 h'
              · exact he'
            · rcases q2 with q2 | q2
              · exact .inl q2
              · right; simp; omega
            · simp; omega
            · intro k2 e2 j x2 hk2 hj2
              have hvl' : vv.cells.toList.length = v.cells.length := hvl
              simp only [List.getElem?_toArray]
              have hsp := splice_get xs.toList vv.cells.toList (k * l'.sz + off) (k2 * l'.sz + j) (by simp [hvl']; omega)
              rw [hvl'] at hsp
              rw [hsp]
              have hjl : j < l'.sz := by
                have h2 := (List.getElem?_eq_some_iff.1 hj2).1
                have hm : e2 ∈ es.set k e' := List.mem_of_getElem? hk2
                rcases List.mem_or_eq_of_mem_set hm with h' | rfl
                · rw [o3 e2 h'] at h2; exact h2
                · rw [he'] at h2; exact h2
              by_cases hkk : k2 = k
              · subst hkk
                rw [List.getElem?_set_self hkl] at hk2
                cases hk2
                rw [p2, splice_get e.cells v.cells off j p1] at hj2
                by_cases c1' : j < off
                · rw [if_pos c1'] at hj2
                  rw [if_pos (by omega)]
                  obtain ⟨u, u1, u2, u3⟩ := q4 k2 e j x2 hk hj2
                  exact ⟨u, by simpa using u1, u2, u3.ext hx⟩
                · rw [if_neg c1'] at hj2
                  rw [if_neg (by omega)]
                  by_cases c2' : j < off + v.cells.length
                  · rw [if_pos c2'] at hj2
                    rw [if_pos (by omega), show k2 * l'.sz + j - (k2 * l'.sz + off) = j - off by omega]
                    have hlt2 : j - off < vv.cells.size := by rw [← c1]; omega
                    refine ⟨vv.cells[j - off], by simp [hlt2], c2 _ (Array.getElem_mem hlt2), ?_⟩
                    exact (c3 (j - off) x2 _ hj2 (Array.getElem?_eq_getElem hlt2)).ext hx
                  · rw [if_neg c2'] at hj2
                    rw [if_neg (by omega)]
                    obtain ⟨u, u1, u2, u3⟩ := q4 k2 e j x2 hk hj2
                    exact ⟨u, by simpa using u1, u2, u3.ext hx⟩
              · rw [List.getElem?_set_ne (fun e => hkk e.symm)] at hk2
                obtain ⟨u, u1, u2, u3⟩ := q4 k2 e2 j x2 hk2 hj2
                have hne : k2 * l'.sz + j < k * l'.sz + off ∨ k * l'.sz + off + v.cells.length ≤ k2 * l'.sz + j := by
                  rcases Nat.lt_or_gt_of_ne hkk with h' | h'
                  · left
                    have : (k2 + 1) * l'.sz ≤ k * l'.sz := Nat.mul_le_mul_right _ h'
                    rw [Nat.succ_mul] at this
                    omega
                  · right
                    have : (k + 1) * l'.sz ≤ k2 * l'.sz := Nat.mul_le_mul_right _ h'
                    rw [Nat.succ_mul] at this
                    omega
                rcases hne with h' | h'
                · rw [if_pos h']; exact ⟨u, by simpa using u1, u2, u3.ext hx⟩
                · rw [if_neg (by omega), if_neg (by omega)]; exact ⟨u, by simpa using u1, u2, u3.ext hx⟩
          obtain ⟨hx', hR⟩ := hr.upd hi hl hg (.inl rfl) (.inl rfl) (fun b m _ hm => by rw [hr.lims _ _ _ hi hl] at hm; cases hm) (o' := .arr T g (es.set k e')) ((hr.lims _ _ _ hi hl).trans rfl) key
          exact ⟨_, _, _, hx', hR, VR.undef_ _ _, h⟩
      · exact h.elim
    · exact h.elim
  · exact h.elim
end Go.AW
end

section
set_option linter.unusedVariables false
set_option linter.unusedSimpArgs false
set_option linter.unnecessarySimpa false
namespace Go.AW
open Go

theorem grown_push (w : World) (o : Obj) : w.grownBy { w with heap := w.heap.push o } none :=
  ⟨rfl, rfl, rfl, by simp, fun k hk _ => by show (w.heap.push o)[k]? = _; rw [Array.getElem?_push, if_neg (by omega)]⟩

theorem heap_push_new (w : World) (o : Obj) : ({ w with heap := w.heap.push o } : World).heap[w.heap.size]? = some o := by simp

/-- A step after which the same objects lie at the same places. -/
theorem R.same_ctx {E : Env} {Γ : Ctx} {σ : Store} {w w' : World} (h : R E Γ σ w) (hg : w.grownBy w' none) : ExtN Γ.next Γ w Γ w' ∧ R E Γ σ w' := by
  have hx : ExtN Γ.next Γ w Γ w' := ⟨hg.os, hg.tape, hg.output, hg.size, fun b hb ho => ⟨.inl (hg.block b hb (by simp)), ho⟩, fun b k hb hf => ⟨fun v hv => by rw [World.cell?_of_block (w := w) (hg.block b hb (by simp))]; exact hv, hf⟩, fun i l hi hl => ⟨l, hl, Nat.le_refl _, fun _ => rfl⟩, Nat.le_refl _, Nat.le_refl _, rfl⟩
  refine ⟨hx, ⟨h.next, h.dom, h.bnd, h.inj, ?_, fun g cs hg => (h.glob g cs hg).ext hx, h.gbel, Nat.le_trans h.base hg.size, h.lims⟩⟩
  intro j oj lj hoj hlj
  have hr := h.objs j oj lj hoj hlj
  have hsame : ∀ b, lj.blk = some b → w'.heap[b]? = w.heap[b]? := fun b hb => hg.block b (h.blk_lt ⟨j, lj, hlj, hb⟩) (by simp)
  cases oj with
  | arr T g es =>
    simp only [ObjRel] at hr ⊢
    obtain ⟨h1, h2, h3, h4, h5, h6⟩ := hr
    refine ⟨h1, h2, h3, h4, h5, ?_⟩
    cases hb : lj.blk with
    | none => simp only [hb] at h6 ⊢; exact h6
    | some b =>
      simp only [hb] at h6 ⊢
      obtain ⟨xs, fr, q1, q2, q3, q4⟩ := h6
      refine ⟨xs, fr, (hsame b hb).trans q1, q2, q3, fun k e j x hk hj => ?_⟩
      obtain ⟨u, u1, u2, u3⟩ := q4 k e j x hk hj
      exact ⟨u, u1, u2, u3.ext hx⟩
  | map ents born clock =>
    obtain ⟨h0, b, es, q1, q2, q3, q4, q5⟩ := hr
    exact ⟨h0, b, es, q1, (hsame b q1).trans q2, q3, fun k e en hk hen => ⟨(q4 k e en hk hen).1, (q4 k e en hk hen).2.ext hx⟩, q5⟩
  | lp b L vs =>
    obtain ⟨h0, q1, q2, q3, q4⟩ := hr
    exact ⟨h0, q1, (hsame b q1).trans q2, q3, fun t a v h1 h2 => (q4 t a v h1 h2).ext hx⟩
  | it o =>
    obtain ⟨h0, b, q1, q2, q3⟩ := hr
    exact ⟨h0, b, q1, (hsame b q1).trans q2, q3⟩
  | mi m since seen last =>
    obtain ⟨h0, b, bm, q1, q2, q3⟩ := hr
    exact ⟨h0, b, bm, q1, (hsame b q1).trans q2, q3.ext hx⟩
  | log T m =>
    simp only [ObjRel] at hr ⊢
    obtain ⟨h1, h2, h3, h4, h5⟩ := hr
    refine ⟨h1, h2, h3, h4, ?_⟩
    cases hb : lj.blk with
    | none => simp only [hb] at h5 ⊢; exact h5
    | some b =>
      simp only [hb] at h5 ⊢
      obtain ⟨xs, fr, q1, q2⟩ := h5
      exact ⟨xs, fr, (hsame b hb).trans q1, q2⟩

theorem VR.pp_drop {Γ : Ctx} {w : World} {cs : List AV} {b o : Nat} (n : Nat) (hb : ∀ j, j < cs.length → Γ.fixd b (o + j)) (hlt : b < w.heap.size) (h : CellsAt Γ w b o cs) : VR Γ w (.pp (cs.drop n)) (.pointer (some ⟨b, o + n, none⟩)) :=
  VR.pp_of (fun j hj => by rw [List.length_drop] at hj; have := hb (n + j) (by omega); rwa [← Nat.add_assoc] at this) hlt (h.drop n)
/-- A row that only grows, as it is read. -/
def AV.rd : AV → AV
  | .lg _ es => .ps es
  | a => a
theorem VR.rd {Γ : Ctx} {w : World} {a : AV} {v : Value} (h : VR Γ w a v) : VR Γ w a.rd v := by
  unfold AV.rd
  split
  · cases h; assumption
  · exact h

mutual
/-- As a function's caller or callee knows it: a slice without room is an empty row, a row that only grows is a row that is read. -/
def frz : AV → AV
  | .nl => .ps []
  | .ps es => .ps (frzL es)
  | .lg _ es => .ps (frzL es)
  | .agg cs => .agg (frzL cs)
  | .tup cs => .tup (frzL cs)
  | .ifc t a => .ifc t (frz a)
  | a => a
def frzL : List AV → List AV
  | [] => []
  | a :: l => frz a :: frzL l
end
@[simp] theorem frz_nl : frz .nl = .ps [] := by rw [frz]
@[simp] theorem frz_c (v : Value) : frz (.c v) = .c v := by rw [frz]; all_goals (intros; contradiction)
@[simp] theorem frz_junk : frz .junk = .junk := by rw [frz]; all_goals (intros; contradiction)
@[simp] theorem frz_fs (l : List UInt8) : frz (.fs l) = .fs l := by rw [frz]; all_goals (intros; contradiction)
@[simp] theorem frz_pp (l : List AV) : frz (.pp l) = .pp l := by rw [frz]; all_goals (intros; contradiction)
@[simp] theorem frz_rs (i g o n : Nat) : frz (.rs i g o n) = .rs i g o n := by rw [frz]; all_goals (intros; contradiction)
@[simp] theorem frz_rc (i g o n c : Nat) : frz (.rc i g o n c) = .rc i g o n c := by rw [frz]; all_goals (intros; contradiction)
@[simp] theorem frz_rp (i g k o : Nat) : frz (.rp i g k o) = .rp i g k o := by rw [frz]; all_goals (intros; contradiction)
@[simp] theorem frz_mp (i : Nat) : frz (.mp i) = .mp i := by rw [frz]; all_goals (intros; contradiction)
@[simp] theorem frz_fn (f : Fn) (a b : List AV) : frz (.fn f a b) = .fn f a b := by rw [frz]; all_goals (intros; contradiction)
@[simp] theorem frz_ps (l : List AV) : frz (.ps l) = .ps (frzL l) := by rw [frz]
@[simp] theorem frz_lg (i : Nat) (l : List AV) : frz (.lg i l) = .ps (frzL l) := by rw [frz]
@[simp] theorem frz_agg (l : List AV) : frz (.agg l) = .agg (frzL l) := by rw [frz]
@[simp] theorem frz_tup (l : List AV) : frz (.tup l) = .tup (frzL l) := by rw [frz]
@[simp] theorem frz_ifc (t : TypeId) (a : AV) : frz (.ifc t a) = .ifc t (frz a) := by rw [frz]
@[simp] theorem frzL_nil : frzL [] = [] := by rw [frzL]
@[simp] theorem frzL_cons (a : AV) (l : List AV) : frzL (a :: l) = frz a :: frzL l := by rw [frzL]
theorem frzL_eq : ∀ l : List AV, frzL l = l.map frz
  | [] => by rw [frzL]; rfl
  | a :: l => by rw [frzL, frzL_eq l]; rfl
@[simp] theorem frzL_map {α : Type} (f : α → AV) (l : List α) : frzL (l.map f) = l.map fun x => frz (f x) := by rw [frzL_eq, List.map_map]; rfl
@[simp] theorem frzL_append (a b : List AV) : frzL (a ++ b) = frzL a ++ frzL b := by simp [frzL_eq]
@[simp] theorem frzL_replicate (n : Nat) (a : AV) : frzL (List.replicate n a) = List.replicate n (frz a) := by simp [frzL_eq]
theorem frz_cells (a : AV) : (frz a).cells = frzL a.cells := by cases a <;> simp [AV.cells]

theorem VR.frz {Γ : Ctx} {w : World} {a : AV} {v : Value} (h : VR Γ w a v) : VR Γ w (AW.frz a) v := by
  induction h with
  | c v h => rw [frz_c]; exact .c v h
  | junk v => rw [frz_junk]; exact .junk v
  | nl a => rw [frz_nl]; exact .ps [] a 0 0 0 (fun _ _ => Go.undef) (Nat.le_refl 0) (fun h => absurd rfl h) (by intro k e j x hk; simp at hk) (by intro k e j x hk; simp at hk) (by intro k e j x hk; simp at hk)
  | agg cs xs hs h1 _ ih =>
    rw [frz_agg, frzL_eq]
    refine .agg _ xs (by simpa using hs) h1 fun j a x ha hx => ?_
    rw [List.getElem?_map, Option.map_eq_some_iff] at ha
    obtain ⟨b, hb, rfl⟩ := ha
    exact ih j b x hb hx
  | tup cs xs hs _ ih =>
    rw [frz_tup, frzL_eq]
    refine .tup _ xs (by simpa using hs) fun j a x ha hx => ?_
    rw [List.getElem?_map, Option.map_eq_some_iff] at ha
    obtain ⟨b, hb, rfl⟩ := ha
    exact ih j b x hb hx
  | ps es a cap b o us hc ha hw h1 _ ih =>
    rw [frz_ps, frzL_eq]
    have key : ∀ (k : Nat) (e : AV) (j : Nat) (x : AV), (es.map AW.frz)[k]? = some e → e.cells[j]? = some x → ∃ e0 x0, es[k]? = some e0 ∧ e0.cells[j]? = some x0 ∧ x = AW.frz x0 ∧ e.cells.length = e0.cells.length := by
      intro k e j x hk hj
      rw [List.getElem?_map, Option.map_eq_some_iff] at hk
      obtain ⟨e0, h0, rfl⟩ := hk
      rw [frz_cells, frzL_eq, List.getElem?_map, Option.map_eq_some_iff] at hj
      obtain ⟨x0, hx0, rfl⟩ := hj
      exact ⟨e0, x0, h0, hx0, rfl, by rw [frz_cells, frzL_eq, List.length_map]⟩
    have := VR.ps (Γ := Γ) (w := w) (es.map AW.frz) a cap b o us (by simpa using hc) (fun hne => ha (by intro e; subst e; simp at hne)) (fun k e j x hk hj => by
      obtain ⟨e0, x0, h0, hx0, rfl, hl⟩ := key k e j x hk hj
      rw [hl]; exact hw k e0 j x0 h0 hx0) (fun k e j x hk hj => by
      obtain ⟨e0, x0, h0, hx0, rfl, hl⟩ := key k e j x hk hj
      exact h1 k e0 j x0 h0 hx0) (fun k e j x hk hj => by
      obtain ⟨e0, x0, h0, hx0, rfl, hl⟩ := key k e j x hk hj
      exact ih k e0 j x0 h0 hx0)
    simpa using this
  | fs l b cap hb hc hh => rw [frz_fs]; exact .fs l b cap hb hc hh
  | pp cs b o us hb hw h1 h _ => rw [frz_pp]; exact .pp cs b o us hb hw h1 h
  | rs i g off len a cap hi hl h => rw [frz_rs]; exact .rs i g off len a cap hi hl h
  | rc i g off len cap a hi hl h => rw [frz_rc]; exact .rc i g off len cap a hi hl h
  | lg i es v _ _ _ ih1 _ => rw [frz_lg]; rw [frz_ps] at ih1; exact ih1
  | rp i g k off a hi h => rw [frz_rp]; exact .rp i g k off a hi h
  | mp i r hi h => rw [frz_mp]; exact .mp i r hi h
  | fn f first cap xs ys hx hy h h' _ _ => rw [frz_fn]; exact .fn f first cap xs ys hx hy h h'
  | ifc t a v _ ih => rw [frz_ifc]; exact .ifc t _ v ih

/-! ### A new variable -/
def aBox (E : Env) (t : TypeId) (x : AV) (σ : Store) (K : AV → Store → Prop) : Prop :=
  x.ok = true ∧ tsz E.P t = x.cells.length ∧ K (.rp σ.next 0 0 0) (σ.alloc (.arr t 0 [x]))

theorem aBox_ok {E : Env} {Γ : Ctx} {σ : Store} {w : World} {t : TypeId} {x : AV} {xv : Value} {K : AV → Store → Prop} (hr : R E Γ σ w) (hx : VR Γ w x xv) (h : aBox E t x σ K) :
    Up E Γ w K ((do pure (.value (← Instr.box t xv)) : Sem Next).run E.P w) := by
  obtain ⟨hok, hsz, h⟩ := h
  obtain ⟨c1, c2, c3⟩ := hx.cells hok
  refine Up.value (v := .pointer (some ⟨w.heap.size, 0, none⟩)) (w' := { w with heap := w.heap.push (.cells xv.cells t) }) (by simp [Instr.box, newVar, newRow]) ?_
  have key : ∀ (hx : ExtN Γ.next Γ w (Γ.alloc ⟨some w.heap.size, tsz E.P t, 1, 0, none⟩) { w with heap := w.heap.push (.cells xv.cells t) }),
      ObjRel E.P (Γ.alloc ⟨some w.heap.size, tsz E.P t, 1, 0, none⟩) { w with heap := w.heap.push (.cells xv.cells t) } (.arr t 0 [x]) ⟨some w.heap.size, tsz E.P t, 1, 0, none⟩ := by
    intro hx
    refine ⟨rfl, rfl, by simpa using hsz.symm, by simp, by simp [maxLen], xv.cells, (0, 0), by simp, .inl rfl, by simp [c1, hsz], ?_⟩
    intro k e j y hk hj
    cases k with
    | zero =>
      simp at hk; subst hk
      have hlt : j < xv.cells.size := by rw [← c1]; exact (List.getElem?_eq_some_iff.1 hj).1
      refine ⟨xv.cells[j], by simp [hlt], c2 _ (Array.getElem_mem hlt), (c3 j y _ hj (Array.getElem?_eq_getElem hlt)).ext hx⟩
    | succ k => simp at hk
  obtain ⟨hx', hR⟩ := hr.new (grown_push w _) (.inr ⟨_, rfl, Nat.le_refl _⟩) rfl key
  refine ⟨_, _, _, hx', hR, ?_, h⟩
  refine .rp σ.next 0 0 0 _ (by simp [Ctx.alloc, hr.next]) ?_
  intro l hl
  simp [Ctx.alloc, hr.next] at hl
  subst hl
  exact ⟨Nat.le_refl _, fun _ => ⟨w.heap.size, rfl, by simp⟩⟩

/-- The zero value of a type. -/
def azero (P : Program) (t : TypeId) : AV :=
  match tzero P t with
  | some z => AV.ofV z
  | none => .junk

theorem run_azero {E : Env} {Γ : Ctx} {t : TypeId} {w : World} (h : (azero E.P t).ok = true) : ∃ z, (zeroValue t).run E.P w = .ok z w ∧ VR Γ w (azero E.P t) z := by
  unfold azero tzero at *
  cases hi : E.P.info? t with
  | none => simp [hi, AV.ok] at h
  | some i =>
    cases hz : i.zero with
    | none => simp [hi, hz, AV.ok] at h
    | some z => exact ⟨z, by simp [zeroValue, typeInfo, hi, hz], by simpa [hi, hz] using VR.ofV Γ w z⟩

def aAlloc (E : Env) (t : TypeId) (σ : Store) (K : AV → Store → Prop) : Prop := aBox E t (azero E.P t) σ K

theorem aAlloc_ok {E : Env} {Γ : Ctx} {σ : Store} {w : World} {t : TypeId} {K : AV → Store → Prop} (hr : R E Γ σ w) (h : aAlloc E t σ K) :
    Up E Γ w K ((do pure (.value (← Instr.alloc t true (.tuple #[]))) : Sem Next).run E.P w) := by
  obtain ⟨z, hz, hv⟩ := run_azero (Γ := Γ) (w := w) h.1
  have := aBox_ok hr hv h
  simpa [Instr.alloc, Instr.box, hz] using this

/-! ### Addresses of fields and elements -/
def aFieldAddr (E : Env) (t : TypeId) (x : AV) (i : Nat) (K : AV → Prop) : Prop :=
  match fld E.P t i with
  | some (o, _) => (match x with
    | .pp cs => K (.pp (cs.drop o))
    | .rp i g k off => K (.rp i g k (off + o))
    | _ => False)
  | none => False

theorem aFieldAddr_ok {E : Env} {Γ : Ctx} {σ : Store} {w : World} {t : TypeId} {x : AV} {xv : Value} {i : Nat} {K : AV → Store → Prop} (hr : R E Γ σ w) (hx : VR Γ w x xv) (h : aFieldAddr E t x i fun a => K a σ) :
    Up E Γ w K ((do pure (.value (← Instr.fieldAt t xv i)) : Sem Next).run E.P w) := by
  unfold aFieldAddr at h
  split at h
  · rename_i o ty hf
    unfold fld at hf
    split at hf
    · rename_i fs hu
      cases hfi : fs[i]? with
      | none => simp [hfi] at hf
      | some f =>
        simp only [hfi, Option.bind_some] at hf
        split at hf
        · cases hf
        · rename_i hn
          cases hf
          have hs : (sizeOf f.type).run E.P w = .ok (tsz E.P f.type) w := run_tsz hn w
          have hnz : tsz E.P f.type ≠ 0 := hn
          have hfp : ∀ b o, (fieldPlace ⟨b, o, none⟩ f).run E.P w = .ok ⟨b, o + f.offset, none⟩ w := by
            intro b o
            simp [fieldPlace, hs, hnz, addr_add]
          split at h
          · obtain ⟨b, o, rfl, h1, h2, h3⟩ := hx.pp_cells
            refine Up.value (v := .pointer (some ⟨b, o + f.offset, none⟩)) (w' := w) ?_ (Res.same hr (VR.pp_drop _ h1 h2 h3) h)
            simp [Instr.fieldAt, run_underlying hu, hfi, Instr.sureAddr, hfp]
          · rename_i ii gg kk oo
            cases hx with
            | rp _ _ _ _ a hi ha =>
              obtain ⟨b, o, s⟩ := a
              by_cases hsn : s = none
              · subst hsn
                refine Up.value (v := .pointer (some ⟨b, o + f.offset, none⟩)) (w' := w) ?_ (Res.same hr (.rp ii gg kk (oo + f.offset) _ hi ?_) h)
                · simp [Instr.fieldAt, run_underlying hu, hfi, Instr.sureAddr, hfp]
                · intro l hl
                  refine ⟨(ha l hl).1, fun e => ?_⟩
                  obtain ⟨b', hb', hab⟩ := (ha l hl).2 e
                  cases hab
                  exact ⟨b, hb', by rw [Nat.add_assoc]⟩
              · -- a stale pointer
                refine Up.value (v := .pointer (some ((⟨b, o, s⟩ : Addr).add f.offset))) (w' := w) ?_ (Res.same hr (.rp ii gg kk (oo + f.offset) _ hi ?_) h)
                · simp [Instr.fieldAt, run_underlying hu, hfi, Instr.sureAddr, fieldPlace, hs, hnz]
                · intro l hl
                  refine ⟨(ha l hl).1, fun e => ?_⟩
                  obtain ⟨b', hb', hab⟩ := (ha l hl).2 e
                  cases hab
                  exact absurd rfl hsn
          · exact h.elim
    · cases hf
  · exact h.elim

def aIndexAddr (E : Env) (t : TypeId) (x i : AV) (σ : Store) (K : AV → Prop) : Prop :=
  match i with
  | .c (.int _ n) => 0 ≤ n ∧ match tk E.P t, x with
    | .slc e, .ps es => tsz E.P e ≠ 0 ∧ ∃ a, es[n.toNat]? = some a ∧ tsz E.P e = a.cells.length ∧ K (.pp a.cells)
    | .slc e, .rs i g off len => n < len ∧ (match σ.get i with
      | some (.arr T g' _) => g = g' ∧ tsz E.P e ≠ 0 ∧ tsz E.P e = tsz E.P T ∧ K (.rp i g (off + n.toNat) 0)
      | _ => False)
    | .arr m e, .pp cs => n < m ∧ tsz E.P e ≠ 0 ∧ K (.pp (cs.drop (n.toNat * tsz E.P e)))
    | _, _ => False
  | _ => False

theorem tk_slc {P : Program} {t e : TypeId} (h : tk P t = .slc e) : P.underlying t = some (.slice e) := by
  unfold tk at h
  split at h <;> first | cases h | skip
  assumption

theorem tk_str {P : Program} {t : TypeId} (h : tk P t = .str) : P.underlying t = some .string := by
  unfold tk at h
  split at h <;> first | cases h | skip
  assumption
theorem tk_arr {P : Program} {t e : TypeId} {n : Nat} (h : tk P t = .arr n e) : P.underlying t = some (.array n e) := by
  unfold tk at h
  split at h <;> first | cases h | skip
  assumption
theorem tk_int {P : Program} {t : TypeId} {k : IntKind} (h : tk P t = .int k) : P.underlying t = some (.int k) := by
  unfold tk at h
  split at h <;> first | cases h | skip
  assumption
theorem tk_map {P : Program} {t k e : TypeId} (h : tk P t = .map k e) : P.underlying t = some (.map k e) := by
  unfold tk at h
  split at h <;> first | cases h | skip
  assumption

theorem aIndexAddr_ok {E : Env} {Γ : Ctx} {σ : Store} {w : World} {t : TypeId} {x i : AV} {xv iv : Value} {K : AV → Store → Prop} (hr : R E Γ σ w) (hx : VR Γ w x xv) (hi : VR Γ w i iv)
    (h : aIndexAddr E t x i σ fun a => K a σ) : Up E Γ w K ((do pure (.value (← Instr.indexAt t xv iv)) : Sem Next).run E.P w) := by
  unfold aIndexAddr at h
  split at h
  · rename_i kk n
    cases hi
    obtain ⟨h0, h⟩ := h
    split at h
    · rename_i e es ht
      obtain ⟨hnz, a, ha, hsz, h⟩ := h
      have hu := tk_slc ht
      have hs := run_tsz hnz w
      cases hx with
      | ps es ad cap b o us hc ha' hw h1 hv =>
        have hlt := (List.getElem?_eq_some_iff.1 ha).1
        have hne : es ≠ [] := by intro e0; subst e0; simp at hlt
        obtain ⟨rfl, b2⟩ := ha' hne
        have hlt' : n < (es.length : Int) := by omega
        refine Up.value (v := .pointer (some ⟨b, o + n.toNat * tsz E.P e, none⟩)) (w' := w) ?_ (Res.same hr (VR.pp_of (fun j hj => by have := (hw _ _ j _ ha (List.getElem?_eq_getElem hj)).2; rwa [← hsz] at this) b2 ?_) h)
        · simp [Instr.indexAt, asIntOf, run_underlying hu, h0, hlt', hs, addr_add]
        · intro j y hj
          refine ⟨us n.toNat j, ?_, h1 _ _ _ _ ha hj, hv _ _ _ _ ha hj⟩
          have := (hw _ _ _ _ ha hj).1
          rwa [← hsz] at this
    · rename_i e i g off len ht
      obtain ⟨hlt, h⟩ := h
      split at h
      · rename_i T g' es hget
        obtain ⟨rfl, hnz, hsz, h⟩ := h
        have hu := tk_slc ht
        have hs := run_tsz hnz w
        obtain ⟨l, hl, ho, _⟩ := hr.loc hget
        simp only [ObjRel] at ho
        obtain ⟨o1, o2, o3, o4, o5, o6⟩ := ho
        cases hx with
        | rs i g off len ad cap hi hlc hat =>
          have hat' := (hat l hl).2 o1
          unfold Loc.rsAt at hat'
          cases hb : l.blk with
          | none => simp only [hb] at hat'; omega
          | some b =>
            simp only [hb] at hat'
            obtain ⟨a1, a2, a3⟩ := hat'
            have hcap : cap ≠ 0 := by omega
            have had : ad = some ⟨b, off * l.sz, none⟩ := by rcases a2 with a2 | a2; exact absurd a2 hcap; exact a2
            subst had
            have hsz' : tsz E.P e = l.sz := by rw [o2, hsz]; rfl
            refine Up.value (v := .pointer (some ⟨b, off * l.sz + n.toNat * tsz E.P e, none⟩)) (w' := w) ?_ (Res.same hr (.rp i g (off + n.toNat) 0 _ hi ?_) h)
            · simp [Instr.indexAt, asIntOf, run_underlying hu, h0, hlt, hs, addr_add]
            · intro l2 hl2
              rw [hl] at hl2; cases hl2
              refine ⟨by omega, fun _ => ⟨b, hb, ?_⟩⟩
              rw [hsz', Nat.add_mul, Nat.add_zero]
      · exact h.elim
    · rename_i m e cs ht
      obtain ⟨hlt, hnz, h⟩ := h
      have hu := tk_arr ht
      have hs := run_tsz hnz w
      obtain ⟨b, o, rfl, hb1, hb2, hc⟩ := hx.pp_cells
      refine Up.value (v := .pointer (some ⟨b, o + n.toNat * tsz E.P e, none⟩)) (w' := w) ?_ (Res.same hr (VR.pp_drop _ hb1 hb2 hc) h)
      simp [Instr.indexAt, Instr.sureAddr, asIntOf, run_underlying hu, h0, hlt, hs, addr_add]
    · exact h.elim
  · exact h.elim

/-! ### Parts of values -/
def aField (E : Env) (t : TypeId) (x : AV) (i : Nat) (K : AV → Prop) : Prop :=
  match fld E.P t i, x with
  | some (o, ty), .agg cs => aLoadC E.P ty (cs.drop o) K
  | _, _ => False

theorem part_ok {E : Env} {Γ : Ctx} {w : World} {ty : TypeId} {o : Nat} {cs : List AV} {xs : Array Value} {K : AV → Prop} (hx : VR Γ w (.agg cs) (.agg xs)) (h : aLoadC E.P ty (cs.drop o) K) :
    ∃ v a, (part ty xs o).run E.P w = .ok v w ∧ VR Γ w a v ∧ K a := by
  cases hx with
  | agg cs xs hs h1 hv =>
    obtain ⟨ht, h⟩ := h
    have hagg := run_isAgg (P := E.P) ht w
    split at h
    · rename_i hA
      obtain ⟨h0, hle, hk⟩ := h
      have hsz := run_tsz h0 w
      refine ⟨.agg (xs.extract o (o + tsz E.P ty)), _, by simp [part, hagg, hA, hsz], .agg _ _ ?_ ?_ ?_, hk⟩
      · simp at hle ⊢; omega
      · intro j x hj
        rw [Array.getElem?_extract] at hj
        split at hj
        · exact h1 _ _ hj
        · cases hj
      · intro j a x ha hj
        rw [Array.getElem?_extract] at hj
        rw [List.getElem?_take] at ha
        split at hj
        · split at ha
          · rw [List.getElem?_drop] at ha
            exact hv _ _ _ ha hj
          · cases ha
        · cases hj
    · rename_i hA
      cases hd : cs.drop o with
      | nil => rw [hd] at h; exact h.elim
      | cons y ys =>
        rw [hd] at h
        have hy : cs[o]? = some y := by
          have := List.getElem?_drop (xs := cs) (i := o) (j := 0)
          rw [hd] at this; simpa using this.symm
        have hlt : o < xs.size := by rw [← hs]; exact (List.getElem?_eq_some_iff.1 hy).1
        refine ⟨xs[o], y, ?_, hv o y _ hy (Array.getElem?_eq_getElem hlt), h⟩
        simp [part, hagg, hA, hlt]

theorem aField_ok {E : Env} {Γ : Ctx} {σ : Store} {w : World} {t : TypeId} {x : AV} {xv : Value} {i : Nat} {K : AV → Store → Prop} (hr : R E Γ σ w) (hx : VR Γ w x xv) (h : aField E t x i fun a => K a σ) :
    Up E Γ w K ((do pure (.value (← Instr.field t xv i)) : Sem Next).run E.P w) := by
  unfold aField at h
  split at h
  · rename_i o ty cs hf
    unfold fld at hf
    split at hf
    · rename_i fs hu
      cases hfi : fs[i]? with
      | none => simp [hfi] at hf
      | some f =>
        simp only [hfi, Option.bind_some] at hf
        split at hf
        · cases hf
        · cases hf
          obtain ⟨xs, rfl⟩ : ∃ xs, xv = .agg xs := by cases hx; exact ⟨_, rfl⟩
          obtain ⟨v, a, r1, r2, r3⟩ := part_ok hx h
          exact Up.value (v := v) (w' := w) (by simp [Instr.field, run_underlying hu, hfi, asAgg, r1]) (Res.same hr r2 r3)
    · cases hf
  · exact h.elim

/-- The byte at an index. -/
def bAt (s : ByteArray) (n : Int) : Int := ((s.data.toList.getD n.toNat 0).toNat : Int)

def aIndex (E : Env) (t : TypeId) (x i : AV) (K : AV → Prop) : Prop :=
  match i with
  | .c (.int _ n) => 0 ≤ n ∧ match tk E.P t, x with
    | .str, .c (.string s) => n < s.size ∧ K (.c (.int .u8 (bAt s n)))
    | .arr len e, .agg cs => n < len ∧ aLoadC E.P e (cs.drop (n.toNat * tsz E.P e)) K ∧ tsz E.P e ≠ 0
    | _, _ => False
  | _ => False

theorem aIndex_ok {E : Env} {Γ : Ctx} {σ : Store} {w : World} {t : TypeId} {x i : AV} {xv iv : Value} {K : AV → Store → Prop} (hr : R E Γ σ w) (hx : VR Γ w x xv) (hi : VR Γ w i iv)
    (h : aIndex E t x i fun a => K a σ) : Up E Γ w K ((do pure (.value (← Instr.index t xv iv)) : Sem Next).run E.P w) := by
  unfold aIndex at h
  split at h
  · rename_i kk n
    cases hi
    obtain ⟨h0, h⟩ := h
    split at h
    · rename_i s ht
      cases hx
      have hu := tk_str ht
      obtain ⟨hlt, h⟩ := h
      have hlt' : n.toNat < s.size := by omega
      have hb : s[n.toNat]? = some (s[n.toNat]'hlt') := by simp [hlt']
      refine Up.value (v := .int .u8 (bAt s n)) (w' := w) ?_ (Res.same hr (.c _ rfl) h)
      have he : (((s[n.toNat]'hlt').toNat : Nat) : Int) = bAt s n := by
        unfold bAt
        have : s.data.toList[n.toNat]? = some (s[n.toNat]'hlt') := by
          rw [List.getElem?_eq_getElem (by simpa using hlt')]; rfl
        simp [List.getD, this]
      simp [Instr.index, asIntOf, run_underlying hu, h0, hb, he]
    · rename_i len e cs ht
      obtain ⟨hlt, h, hnz⟩ := h
      have hu := tk_arr ht
      obtain ⟨xs, rfl⟩ : ∃ xs, xv = .agg xs := by cases hx; exact ⟨_, rfl⟩
      obtain ⟨v, a, r1, r2, r3⟩ := part_ok hx h
      have hs := run_tsz hnz w
      exact Up.value (v := v) (w' := w) (by simp [Instr.index, asIntOf, run_underlying hu, h0, hlt, hs, r1]) (Res.same hr r2 r3)
    · exact h.elim
  · exact h.elim
end Go.AW
end

section
set_option linter.unusedVariables false
set_option linter.unusedSimpArgs false
set_option linter.unnecessarySimpa false
namespace Go.AW
open Go

/-! ### Building -/
def aFill (place : Nat → Option (Nat × Nat)) (cells : List AV) : List (Nat × AV) → Option (List AV)
  | [] => some cells
  | (i, v) :: rest => (place i).bind fun p => if v.ok = true ∧ v.cells.length = p.2 ∧ p.1 + p.2 ≤ cells.length then aFill place (cells.take p.1 ++ v.cells ++ cells.drop (p.1 + p.2)) rest else none

theorem foldl_set (vs : List Value) (off : Nat) : ∀ (k : Nat) (cells : Array Value), off + k + vs.length ≤ cells.size →
    ((vs.zipIdx k).foldl (fun cs (p : Value × Nat) => cs.setIfInBounds (off + p.2) p.1) cells) = (cells.toList.take (off + k) ++ vs ++ cells.toList.drop (off + k + vs.length)).toArray := by
  induction vs with
  | nil => intro k cells h; simp
  | cons v vs ih =>
    intro k cells h
    simp only [List.zipIdx_cons, List.foldl_cons]
    rw [ih (k + 1) _ (by simp at h ⊢; omega)]
    have e := list_seg_step cells.toList (off + k) v vs (by simp at h ⊢; omega)
    congr 1
    simpa [Array.toList_setIfInBounds, Nat.add_assoc] using e

/-- Parts and their abstract parts. -/
def PartsRel (Γ : Ctx) (w : World) : List (Nat × AV) → List (Nat × Value) → Prop
  | [], [] => True
  | (i, a) :: as, (j, v) :: vs => i = j ∧ VR Γ w a v ∧ PartsRel Γ w as vs
  | _, _ => False

/-- A list of cells and its values. -/
def CellsRel (Γ : Ctx) (w : World) (cs : List AV) (us : List Value) : Prop :=
  us.length = cs.length ∧ (∀ u ∈ us, u.oneCell' = true) ∧ ∀ (j : Nat) (x : AV) (u : Value), cs[j]? = some x → us[j]? = some u → VR Γ w x u

theorem CellsRel.append {Γ : Ctx} {w : World} {a b : List AV} {us vs : List Value} (h : CellsRel Γ w a us) (k : CellsRel Γ w b vs) : CellsRel Γ w (a ++ b) (us ++ vs) := by
  obtain ⟨h1, h2, h3⟩ := h
  obtain ⟨k1, k2, k3⟩ := k
  refine ⟨by simp [h1, k1], ?_, ?_⟩
  · intro u hu
    rcases List.mem_append.1 hu with hu | hu
    · exact h2 u hu
    · exact k2 u hu
  · intro j x u hx hu
    by_cases hj : j < a.length
    · rw [List.getElem?_append_left hj] at hx
      rw [List.getElem?_append_left (by omega)] at hu
      exact h3 j x u hx hu
    · rw [List.getElem?_append_right (by omega)] at hx
      rw [List.getElem?_append_right (by omega), h1] at hu
      exact k3 _ x u hx hu

theorem CellsRel.take {Γ : Ctx} {w : World} {a : List AV} {us : List Value} (h : CellsRel Γ w a us) (n : Nat) : CellsRel Γ w (a.take n) (us.take n) := by
  obtain ⟨h1, h2, h3⟩ := h
  refine ⟨by simp [h1], fun u hu => h2 u (List.mem_of_mem_take hu), fun j x u hx hu => ?_⟩
  rw [List.getElem?_take] at hx hu
  split at hx
  · rw [if_pos (by assumption)] at hu; exact h3 j x u hx hu
  · cases hx

theorem CellsRel.drop {Γ : Ctx} {w : World} {a : List AV} {us : List Value} (h : CellsRel Γ w a us) (n : Nat) : CellsRel Γ w (a.drop n) (us.drop n) := by
  obtain ⟨h1, h2, h3⟩ := h
  refine ⟨by simp [h1], fun u hu => h2 u (List.mem_of_mem_drop hu), fun j x u hx hu => ?_⟩
  rw [List.getElem?_drop] at hx hu
  exact h3 _ x u hx hu

theorem VR.cellsRel {Γ : Ctx} {w : World} {a : AV} {v : Value} (h : VR Γ w a v) (ha : a.ok = true) : CellsRel Γ w a.cells v.cells.toList := by
  obtain ⟨h1, h2, h3⟩ := h.cells ha
  exact ⟨by simp [h1], fun u hu => h2 u (by simpa using hu), fun j x u hx hu => h3 j x u hx (by simpa using hu)⟩

theorem CellsRel.agg {Γ : Ctx} {w : World} {cs : List AV} {us : List Value} (h : CellsRel Γ w cs us) : VR Γ w (.agg cs) (.agg us.toArray) := VR.agg_of h.1 h.2.1 h.2.2

theorem fill_ok {Γ : Ctx} {w : World} (place : Nat → Option (Nat × Nat)) : ∀ (parts : List (Nat × AV)) (vparts : List (Nat × Value)) (cs cs' : List AV) (us : Array Value), PartsRel Γ w parts vparts → CellsRel Γ w cs us.toList →
    aFill place cs parts = some cs' → ∃ us', Instr.fill place us vparts = some us' ∧ CellsRel Γ w cs' us'.toList
  | [], [], cs, cs', us, _, hc, h => by
    simp only [aFill, Option.some.injEq] at h; subst h
    exact ⟨us, rfl, hc⟩
  | (i, a) :: parts, (j, v) :: vparts, cs, cs', us, hp, hc, h => by
    obtain ⟨rfl, hv, hp⟩ := hp
    simp only [aFill] at h
    cases hpl : place i with
    | none => simp [hpl] at h
    | some p =>
      simp only [hpl, Option.bind_some] at h
      split at h
      · rename_i hcond
        obtain ⟨c1, c2, c3⟩ := hcond
        obtain ⟨d1, d2, d3⟩ := hv.cells c1
        have hus : us.size = cs.length := by have := hc.1; simpa using this
        have hvs : v.cells.size = p.2 := by rw [← d1, c2]
        have hfold : v.cells.zipIdx.foldl (fun cs (x : Value × Nat) => cs.setIfInBounds (p.1 + x.2) x.1) us = (us.toList.take p.1 ++ v.cells.toList ++ us.toList.drop (p.1 + p.2)).toArray := by
          have := foldl_set v.cells.toList p.1 0 us (by simp; omega)
          simp only [Nat.add_zero, Array.length_toList, hvs] at this
          rw [← this, ← Array.foldl_toList]
          congr 1
          simp
        obtain ⟨us', u1, u2⟩ := fill_ok place parts vparts _ cs' (us.toList.take p.1 ++ v.cells.toList ++ us.toList.drop (p.1 + p.2)).toArray hp
          (by simpa using ((hc.take p.1).append (hv.cellsRel c1)).append (hc.drop (p.1 + p.2))) h
        refine ⟨us', ?_, u2⟩
        simp only [Instr.fill, hpl]
        rw [if_neg (by simp; omega), hfold]
        exact u1
      · cases h
  | [], _ :: _, _, _, _, hp, _, _ => hp.elim
  | _ :: _, [], _, _, _, hp, _, _ => hp.elim

def plc (P : Program) (t : TypeId) : Option (List (Nat × Nat)) :=
  match P.underlying t with
  | some (.struct fields) => fields.toList.mapM fun f => (P.info? f.type).map fun i => (f.offset, i.size)
  | some (.array n e) => (P.info? e).map fun i => (List.range n).map fun k => (k * i.size, i.size)
  | _ => none

def aBuild (E : Env) (t : TypeId) (parts : List (Nat × AV)) (K : AV → Prop) : Prop :=
  match azero E.P t, plc E.P t with
  | .agg cs, some pl => (match aFill (fun i => pl[i]?) cs parts with
    | some cs' => K (.agg cs')
    | none => False)
  | _, _ => False

theorem fill_mono {p q : Nat → Option (Nat × Nat)} (h : ∀ i x, p i = some x → q i = some x) : ∀ (parts : List (Nat × Value)) (us us' : Array Value), Instr.fill p us parts = some us' → Instr.fill q us parts = some us'
  | [], us, us', hf => hf
  | (i, v) :: parts, us, us', hf => by
    simp only [Instr.fill] at hf ⊢
    cases hp : p i with
    | none => simp [hp] at hf
    | some x =>
      simp only [hp] at hf
      simp only [h i x hp]
      split at hf
      · cases hf
      · rename_i hc
        rw [if_neg hc]
        exact fill_mono h parts _ us' hf

theorem aBuild_ok {E : Env} {Γ : Ctx} {σ : Store} {w : World} {t : TypeId} {parts : List (Nat × AV)} {vparts : Array (Nat × Value)} {K : AV → Store → Prop} (hr : R E Γ σ w) (hp : PartsRel Γ w parts vparts.toList)
    (h : aBuild E t parts fun a => K a σ) : Up E Γ w K ((do pure (.value (← Instr.build t vparts)) : Sem Next).run E.P w) := by
  unfold aBuild at h
  split at h
  · rename_i cs pl hz hpl
    split at h
    · rename_i cs' hf
      obtain ⟨z, hz1, hz2⟩ := run_azero (E := E) (Γ := Γ) (w := w) (t := t) (by rw [hz]; rfl)
      rw [hz] at hz2
      obtain ⟨xs, rfl⟩ : ∃ xs, z = .agg xs := by cases hz2; exact ⟨_, rfl⟩
      obtain ⟨us', u1, u2⟩ := fill_ok _ parts vparts.toList cs cs' xs hp (by have := hz2.cellsRel rfl; simpa [AV.cells, Value.cells] using this) hf
      have hzi : ∃ it, E.P.info? t = some it ∧ it.zero = some (.agg xs) := by
        cases hi : E.P.info? t with
        | none => simp [zeroValue, typeInfo, hi] at hz1
        | some it =>
          cases hzz : it.zero with
          | none => simp [zeroValue, typeInfo, hi, hzz] at hz1
          | some z' => simp [zeroValue, typeInfo, hi, hzz] at hz1; exact ⟨it, rfl, by rw [hzz, hz1]⟩
      obtain ⟨it, hi, hzz⟩ := hzi
      have hb : E.P.built t vparts.toList = some us' := by
        unfold plc at hpl
        unfold Program.built
        split at hpl
        · rename_i fields hu
          simp only [hi, hu, hzz, hpl, Value.cells]
          simpa using u1
        · rename_i n e hu
          cases hie : E.P.info? e with
          | none => simp [hie] at hpl
          | some ie =>
            simp only [hie, Option.map_some, Option.some.injEq] at hpl
            simp only [hi, hu, hzz, hie, Value.cells]
            refine fill_mono ?_ _ _ _ u1
            intro k x hk
            subst hpl
            simp only [List.getElem?_map, Option.map_eq_some_iff] at hk
            obtain ⟨y, hy, rfl⟩ := hk
            obtain ⟨hy1, hy2⟩ := List.getElem?_eq_some_iff.1 hy
            simp at hy2; subst hy2; rfl
        · cases hpl
      refine Up.value (v := .agg us') (w' := w) (run_build w t vparts us' hb) (Res.same hr ?_ h)
      have := u2.agg
      simpa using this
    · exact h.elim
  · exact h.elim

/-! ### Elements of a slice -/
theorem CellsAt.append {Γ : Ctx} {w : World} {b o : Nat} {as bs : List AV} (h : CellsAt Γ w b o as) (k : CellsAt Γ w b (o + as.length) bs) : CellsAt Γ w b o (as ++ bs) := by
  intro j x hx
  by_cases hj : j < as.length
  · rw [List.getElem?_append_left hj] at hx
    exact h j x hx
  · rw [List.getElem?_append_right (by omega)] at hx
    have := k _ x hx
    rwa [show o + as.length + (j - as.length) = o + j by omega] at this

/-- The cells of all elements, one after the other. -/
def flat (es : List AV) : List AV := es.flatMap AV.cells

theorem flat_length {sz : Nat} : ∀ {es : List AV}, (∀ e ∈ es, e.cells.length = sz) → (flat es).length = es.length * sz
  | [], _ => by simp [flat]
  | e :: es, h => by
    have := flat_length (es := es) (sz := sz) (fun e he => h e (by simp [he]))
    unfold flat at this ⊢
    simp only [List.flatMap_cons, List.length_append, List.length_cons, this, h e (by simp)]
    rw [Nat.succ_mul]; omega

theorem flat_append (a b : List AV) : flat (a ++ b) = flat a ++ flat b := by simp [flat]

theorem flat_at {Γ : Ctx} {w : World} {b sz : Nat} : ∀ {es : List AV} {o : Nat}, (∀ e ∈ es, e.cells.length = sz) →
    (∀ (k : Nat) (e : AV) (j : Nat) (x : AV), es[k]? = some e → e.cells[j]? = some x → ∃ u, w.cell? ⟨b, o + k * sz + j, none⟩ = some u ∧ u.oneCell' = true ∧ VR Γ w x u) → CellsAt Γ w b o (flat es)
  | [], o, _, _ => by intro j x hx; simp [flat] at hx
  | e :: es, o, hs, h => by
    have he := hs e (by simp)
    refine CellsAt.append (fun j x hx => by simpa using h 0 e j x rfl hx) ?_
    rw [he]
    refine flat_at (fun e he => hs e (by simp [he])) fun k e' j x hk hj => ?_
    have := h (k + 1) e' j x (by simpa using hk) hj
    rwa [show o + (k + 1) * sz + j = o + sz + k * sz + j by rw [Nat.succ_mul]; omega] at this

theorem flat_get {sz : Nat} : ∀ {es : List AV} {k : Nat} {e : AV} {j : Nat} {x : AV}, (∀ e ∈ es, e.cells.length = sz) → es[k]? = some e → e.cells[j]? = some x → (flat es)[k * sz + j]? = some x
  | [], k, e, j, x, _, hk, _ => by simp at hk
  | e0 :: es, k, e, j, x, hs, hk, hj => by
    have he0 := hs e0 (by simp)
    have hjl : j < sz := by
      have := (List.getElem?_eq_some_iff.1 hj).1
      rw [hs e (List.mem_of_getElem? hk)] at this; exact this
    unfold flat
    rw [List.flatMap_cons]
    cases k with
    | zero =>
      simp at hk; subst hk
      rw [List.getElem?_append_left (by omega)]; simpa using hj
    | succ k =>
      have := flat_get (es := es) (fun e he => hs e (by simp [he])) (by simpa using hk) hj
      rw [List.getElem?_append_right (by rw [he0, Nat.succ_mul]; omega), he0, show (k + 1) * sz + j - sz = k * sz + j by rw [Nat.succ_mul]; omega]
      exact this

/-- A byte as an element. -/
def byteV (b : UInt8) : AV := .c (.int .u8 b.toNat)

/-- A slice (or a string) that is read: its elements. -/
def aElems (σ : Store) (x : AV) : Option (List AV) :=
  match x with
  | .ps es => some es
  | .nl => some []
  | .c (.string s) => some (s.data.toList.map byteV)
  | .rs i g off len => match σ.get i with
    | some (.arr _ g' es) => if g = g' ∧ off + len ≤ es.length then some ((es.drop off).take len) else none
    | _ => none
  | _ => none

theorem run_lenOf {E : Env} {Γ : Ctx} {σ : Store} {w : World} {x : AV} {xv : Value} {es : List AV} (hx : VR Γ w x xv) (h : aElems σ x = some es) (w' : World) : (Builtin.lenOf xv).run E.P w' = .ok es.length w' := by
  unfold aElems at h
  split at h
  · cases h; cases hx; simp [Builtin.lenOf]
  · cases h; cases hx; simp [Builtin.lenOf]
  · cases h; cases hx; simp [Builtin.lenOf]
  · split at h
    · split at h
      · rename_i hc; cases h; cases hx; simp [Builtin.lenOf]; omega
      · cases h
    · cases h
  · cases h

/-- What is read stands in cells (or is a string). -/
theorem run_firstCells {E : Env} {Γ : Ctx} {σ : Store} {w : World} {x : AV} {xv : Value} {es : List AV} {sz : Nat} (hr : R E Γ σ w) (hx : VR Γ w x xv) (h : aElems σ x = some es) (hs : ∀ e ∈ es, e.cells.length = sz) :
    ∃ us : List Value, CellsRel Γ w (flat es) us ∧ ∀ w', w'.heap = w.heap → (Builtin.firstCells sz es.length xv).run E.P w' = .ok us.toArray w' := by
  have hrow : ∀ (a : Option Addr) (len cap : Nat), (es ≠ [] → ∃ b o, a = some ⟨b, o, none⟩ ∧ CellsAt Γ w b o (flat es)) →
      ∃ us : List Value, CellsRel Γ w (flat es) us ∧ ∀ w', w'.heap = w.heap → (Builtin.firstCells sz es.length (.slice a len cap)).run E.P w' = .ok us.toArray w' := by
    intro a len cap hca
    by_cases hne : es = []
    · subst hne
      refine ⟨[], ⟨rfl, by simp, by simp [flat]⟩, fun w' _ => ?_⟩
      cases a with
      | none => simp [Builtin.firstCells]
      | some a => simp [Builtin.firstCells, loadCells, loadCellsFrom]
    · obtain ⟨b, o, rfl, hc⟩ := hca hne
      obtain ⟨us, a1, a2, a3, a4⟩ := hc.list
      refine ⟨us, ⟨a1, a3, a4⟩, fun w' hw' => ?_⟩
      exact run_firstCells_some (P := E.P) w' sz es.length ⟨b, o, none⟩ len cap us (by rw [a1, flat_length hs]) (fun j v hv => by
        rw [addr_add]
        have := a2 j v hv
        simpa [World.cell?, hw'] using this)
  unfold aElems at h
  split at h
  · cases h
    cases hx with
    | ps es a cap b o us hc ha hw h1 hv =>
      refine hrow a es.length cap fun hne => ⟨b, o, (ha hne).1, flat_at hs fun k e j y hk hj => ⟨us k j, ?_, h1 k e j y hk hj, hv k e j y hk hj⟩⟩
      have := (hw k e j y hk hj).1
      rwa [hs e (List.mem_of_getElem? hk)] at this
  · cases h
    cases hx with
    | nl a => exact hrow a 0 0 (fun h => absurd rfl h)
  · rename_i s
    cases h
    cases hx
    by_cases hne : s.data.toList = []
    · refine ⟨[], ?_, fun w' _ => ?_⟩
      · rw [hne]; exact ⟨rfl, by simp, by simp [flat]⟩
      · have : s.data = #[] := by cases hs' : s.data; simp [hs'] at hne; simp [hne]
        simp [Builtin.firstCells, hne, this]
    · have hsz : sz = 1 := by
        cases hd : s.data.toList with
        | nil => exact absurd hd hne
        | cons b bs => have := hs (byteV b) (by simp [hd]); simpa [byteV, AV.cells] using this.symm
      subst hsz
      refine ⟨s.data.toList.map fun b => .int .u8 b.toNat, ?_, fun w' _ => ?_⟩
      · have hfl : flat (s.data.toList.map byteV) = s.data.toList.map byteV := by
          unfold flat; induction s.data.toList with
          | nil => rfl
          | cons b bs ih => simp only [List.map_cons, List.flatMap_cons, ih]; simp [byteV, AV.cells]
        rw [hfl]
        refine ⟨by simp, by simp [Value.oneCell'], ?_⟩
        intro j y u hy hu
        simp only [List.getElem?_map, Option.map_eq_some_iff] at hy hu
        obtain ⟨b1, hb1, rfl⟩ := hy
        obtain ⟨b2, hb2, rfl⟩ := hu
        rw [hb1] at hb2; cases hb2
        exact .c _ rfl
      · simp [Builtin.firstCells]
        apply Array.ext'
        simp
  · rename_i i g off len
    split at h
    · rename_i T g' es' hget
      split at h
      · rename_i hc
        obtain ⟨rfl, hle⟩ := hc
        cases h
        obtain ⟨l, hl, ho, _⟩ := hr.loc hget
        simp only [ObjRel] at ho
        obtain ⟨o1, o2, o3, o4, o5, o6⟩ := ho
        cases hx with
        | rs i g off len ad cap hi hlc hat =>
          have hat' := (hat l hl).2 o1
          refine hrow ad len cap fun hne => ?_
          have hlen : 0 < len := by
            rcases Nat.eq_zero_or_pos len with h0 | h0
            · subst h0; simp at hne
            · exact h0
          unfold Loc.rsAt at hat'
          cases hb : l.blk with
          | none => simp only [hb] at hat'; omega
          | some b =>
            simp only [hb] at hat' o6
            obtain ⟨a1, a2, a3⟩ := hat'
            have had : ad = some ⟨b, off * l.sz, none⟩ := by rcases a2 with a2 | a2; omega; exact a2
            subst had
            refine ⟨b, off * l.sz, rfl, flat_at hs fun k e j y hk hj => ?_⟩
            obtain ⟨xs, fr, q1, q2, q3, q4⟩ := o6
            rw [List.getElem?_take] at hk
            split at hk
            · rw [List.getElem?_drop] at hk
              obtain ⟨u, u1, u2, u3⟩ := q4 _ e j y hk hj
              have hsz : sz = l.sz := by rw [← o3 e (List.mem_of_getElem? hk)]; exact (hs e (by
                refine List.mem_of_getElem? (i := k) ?_
                rw [List.getElem?_take, if_pos (by assumption), List.getElem?_drop]; exact hk)).symm
              refine ⟨u, ?_, u2, u3⟩
              have e1 : off * l.sz + k * sz + j = (off + k) * l.sz + j := by rw [hsz, Nat.add_mul]
              rw [e1]
              simp [World.cell?, q1, u1]
            · cases hk
      · cases h
    · cases h
  · cases h

/-! ### append -/
def tby (P : Program) (t : TypeId) : Nat := ((P.info? t).map (·.bytes)).getD 0

def aAppend (E : Env) (t u : TypeId) (s x : AV) (σ : Store) (K : AV → Store → Prop) : Prop :=
  (tk E.P u = .str ∨ ∃ e, tk E.P u = .slc e) ∧ match tk E.P t with
    | .slc e => tsz E.P e ≠ 0 ∧ (azero E.P e).ok = true ∧ tsz E.P e = (azero E.P e).cells.length ∧ (match aElems σ x with
      | some news => (∀ a ∈ news, a.cells.length = tsz E.P e) ∧ (match s with
        | .nl => news.length * tby E.P e ≤ 140737488355328 ∧ news.length ≤ maxLen ∧ (news = [] → K .nl σ) ∧ (news ≠ [] → K (.rs σ.next 0 0 news.length) (σ.alloc (.arr e 0 news)))
        | .rs i g off len => (match σ.get i with
          | some (.arr T g' es) => off = 0 ∧ g = g' ∧ T = e ∧ len = es.length ∧ (es.length + news.length) * tby E.P e ≤ 140737488355328 ∧ es.length + news.length ≤ maxLen ∧
              K (.rs i (g + 1) 0 (len + news.length)) (σ.set i (.arr e (g + 1) (es ++ news)))
          | _ => False)
        | _ => False)
      | none => False)
    | _ => False

theorem zeroCells_get (z : Array Value) (n m : Nat) (u : Value) (h : (Builtin.zeroCells z n)[m]? = some u) : u ∈ z := by
  unfold Builtin.zeroCells at h
  simp only [Array.getElem?_map, Option.map_eq_some_iff] at h
  obtain ⟨y, hy, rfl⟩ := h
  obtain ⟨hy1, hy2⟩ := Array.getElem?_eq_some_iff.1 hy
  simp at hy1 hy2
  subst hy2
  have hz : 0 < z.size := by
    rcases Nat.eq_zero_or_pos z.size with h0 | h0
    · rw [h0] at hy1; omega
    · exact h0
  have : m % z.size < z.size := Nat.mod_lt _ hz
  simp [this]

/-- The world after an append in place. -/
def inPlace (w : World) (a : Option Addr) (k : Nat) (news : List Value) : World :=
  match a with
  | none => w
  | some ad => match w.heap[ad.block]? with
    | some (.cells xs _ _) => w.setRow ad.block (xs.toList.take k ++ news ++ xs.toList.drop (k + news.length)).toArray
    | _ => w

/-- What an append yields: either in place, or in a new row. -/
theorem run_append_gen {P : Program} {w : World} {t u ty e : TypeId} {i : TypeInfo} {z : Value} {sz : Nat} (ht : P.underlying t = some (.slice e)) (hu : P.underlying u = some .string ∨ ∃ e', P.underlying u = some (.slice e'))
    (hi : P.info? e = some i) (hz : i.zero = some z) (hsize : i.size = sz)
    {a : Option Addr} {n cap m : Nat} {xv : Value} {olds news : List Value} (hlen : ∀ w' : World, (Builtin.lenOf xv).run P w' = .ok m w')
    (hnew : ∀ w' : World, w'.heap = w.heap → (Builtin.firstCells sz m xv).run P w' = .ok news.toArray w') (hnl : news.length = m * sz) (hn1 : ∀ u ∈ news, u.oneCell' = true)
    (hold : ∀ w' : World, w'.heap = w.heap → (Builtin.firstCells sz n (.slice a n cap)).run P w' = .ok olds.toArray w') (hol : olds.length = n * sz) (hncap : n ≤ cap)
    (hrow : n + m ≤ cap → ∀ ad, a = some ad → ∃ b xs fr, ad = ⟨b, 0, none⟩ ∧ w.heap[b]? = some (.cells xs e fr) ∧ (fr.1 = fr.2 ∨ xs.size ≤ fr.1) ∧ xs.size = cap * sz)
    (h63 : n + m ≤ maxLen) (hby : (n + m) * i.bytes ≤ 140737488355328) :
    (n + m ≤ cap ∧ (Builtin.append_ #[t, u] ty #[.slice a n cap, xv]).run P w = .ok (.slice a (n + m) cap) (inPlace w a (n * sz) news)) ∨
    ∃ c, n + m ≤ c ∧ c ≤ maxLen ∧ (Builtin.append_ #[t, u] ty #[.slice a n cap, xv]).run P w = .ok (.slice (some ⟨w.heap.size, 0, none⟩) (n + m) c)
        (w.drew.alloc (.cells (olds.toArray ++ (news.toArray ++ Builtin.zeroCells z.cells (c - (n + m)))) e)) := by
  by_cases hroom : n + m ≤ cap
  · left
    refine ⟨hroom, ?_⟩
    have hn := hnew w rfl
    cases a with
    | none =>
      rcases hu with hu | ⟨e', hu⟩ <;> simp [Builtin.append_, run_underlying ht, run_underlying hu, sizeOf, typeInfo, hi, hsize, hlen, hroom, hn, inPlace]
    | some ad =>
      obtain ⟨b, xs, fr, rfl, q1, q2, q3⟩ := hrow hroom ad rfl
      have hst := run_storeCells_free P b (n * sz) e fr news 0 xs w q1 q2 (by rw [hnl, q3, Nat.add_zero, ← Nat.add_mul]; exact Nat.mul_le_mul_right _ hroom) hn1
      simp only [Nat.add_zero] at hst
      rcases hu with hu | ⟨e', hu⟩ <;> simp [Builtin.append_, run_underlying ht, run_underlying hu, sizeOf, typeInfo, hi, hsize, hlen, hroom, hn, addr_add, hst, q1, inPlace]
  · right
    refine ⟨grownCap w (n + m) cap e, grownCap_ge _ _ _ _, grownCap_le_maxLen _ _ _ _ h63, ?_⟩
    have h63' : ¬ (9223372036854775807 < ((n : Int) + (m : Int))) := by simp only [maxLen] at h63; omega
    have h48 := growslice_fits (bytes := i.bytes) (show cap < n + m by omega) hby
    have h48' : ¬ (281474976710656 < Builtin.nextslicecap (n + m) cap * i.bytes) := by omega
    have hn := hnew w.drew rfl
    have ho := hold w.drew rfl
    have hd : ({ w with drawn := w.drawn + 1 } : World) = w.drew := rfl
    rcases hu with hu | ⟨e', hu⟩ <;>
      simp [Builtin.append_, run_underlying ht, run_underlying hu, sizeOf, typeInfo, zeroValue, hi, hz, hsize, hlen, hroom, h63', h48', Question.forced, hn, ho, newRow, grownCap] <;> rfl

theorem run_append_zero {P : Program} {w : World} {t u ty e : TypeId} {i : TypeInfo} {sz : Nat} (ht : P.underlying t = some (.slice e)) (hu : P.underlying u = some .string ∨ ∃ e', P.underlying u = some (.slice e'))
    (hi : P.info? e = some i) (hsize : i.size = sz) {a : Option Addr} {n cap : Nat} {xv : Value} (hlen : ∀ w' : World, (Builtin.lenOf xv).run P w' = .ok 0 w')
    (hnew : ∀ w' : World, w'.heap = w.heap → (Builtin.firstCells sz 0 xv).run P w' = .ok #[] w') (hncap : n ≤ cap) :
    (Builtin.append_ #[t, u] ty #[.slice a n cap, xv]).run P w = .ok (.slice a n cap) w := by
  have hn := hnew w rfl
  cases a with
  | none => rcases hu with hu | ⟨e', hu⟩ <;> simp [Builtin.append_, run_underlying ht, run_underlying hu, sizeOf, typeInfo, hi, hsize, hlen, hncap, hn]
  | some ad => rcases hu with hu | ⟨e', hu⟩ <;> simp [Builtin.append_, run_underlying ht, run_underlying hu, sizeOf, typeInfo, hi, hsize, hlen, hncap, hn, storeCells]

theorem grown_of_drew_alloc (w : World) (o : Obj) (row : Option Nat) : w.grownBy (w.drew.alloc o) row :=
  ⟨rfl, rfl, rfl, by simp, fun k hk _ => by show (w.heap.push o)[k]? = _; rw [Array.getElem?_push, if_neg (by omega)]⟩

theorem grownBy_self (w : World) (row : Option Nat) : w.grownBy w row := ⟨rfl, rfl, rfl, Nat.le_refl _, fun _ _ _ => rfl⟩

theorem VR.rs_inv {Γ : Ctx} {w : World} {i g off len : Nat} {v : Value} (h : VR Γ w (.rs i g off len) v) :
    ∃ a cap, v = .slice a len cap ∧ i < Γ.next ∧ len ≤ cap ∧ ∀ l, Γ.get i = some l → g ≤ l.gen ∧ (l.gen = g → l.rsAt off len a cap) := by
  cases h with
  | rs i g off len a cap hi hl h => exact ⟨a, cap, rfl, hi, hl, h⟩

/-- The cells of elements in a row. -/
theorem row_rel {Γ Γ' : Ctx} {w w' : World} (hx : ExtN Γ.next Γ w Γ' w') {sz : Nat} {es : List AV} {us : List Value} {xs : Array Value} (hs : ∀ e ∈ es, e.cells.length = sz) (hc : CellsRel Γ w (flat es) us)
    (hxs : ∀ (m : Nat) (u : Value), us[m]? = some u → xs[m]? = some u) :
    ∀ (k : Nat) (e : AV) (j : Nat) (x : AV), es[k]? = some e → e.cells[j]? = some x → ∃ u, xs[k * sz + j]? = some u ∧ u.oneCell' = true ∧ VR Γ' w' x u := by
  intro k e j x hk hj
  have hf := flat_get hs hk hj
  have hlt : k * sz + j < us.length := by rw [hc.1]; exact (List.getElem?_eq_some_iff.1 hf).1
  have hu := List.getElem?_eq_getElem hlt
  exact ⟨_, hxs _ _ hu, hc.2.1 _ (List.mem_of_getElem? hu), (hc.2.2 _ _ _ hf hu).ext hx⟩

theorem aAppend_ok {E : Env} {Γ : Ctx} {σ : Store} {w : World} {t u ty : TypeId} {s x : AV} {sv xv : Value} {K : AV → Store → Prop} (hr : R E Γ σ w) (hsv : VR Γ w s sv) (hxv : VR Γ w x xv)
    (h : aAppend E t u s x σ K) : ∃ v w', (Builtin.append_ #[t, u] ty #[sv, xv]).run E.P w = .ok v w' ∧ Res E Γ w K v w' := by
  obtain ⟨hu', h⟩ := h
  have hu : E.P.underlying u = some .string ∨ ∃ e', E.P.underlying u = some (.slice e') := by
    rcases hu' with hu' | ⟨e, hu'⟩
    · exact .inl (tk_str hu')
    · exact .inr ⟨e, tk_slc hu'⟩
  split at h
  · rename_i e ht'
    have ht := tk_slc ht'
    obtain ⟨hnz, hzok, hzs, h⟩ := h
    obtain ⟨i, hi, hsize⟩ : ∃ i, E.P.info? e = some i ∧ i.size = tsz E.P e := by
      unfold tsz cellsOf' at *
      cases hi : E.P.info? e with
      | none => simp [hi] at hnz
      | some i => exact ⟨i, rfl, by simp⟩
    have hby : tby E.P e = i.bytes := by simp [tby, hi]
    obtain ⟨z, hz, hzv⟩ : ∃ z, i.zero = some z ∧ VR Γ w (azero E.P e) z := by
      unfold azero tzero at *
      cases hzz : i.zero with
      | none => simp [hi, hzz, AV.ok] at hzok
      | some z => exact ⟨z, rfl, by simpa [hi, hzz] using VR.ofV Γ w z⟩
    have hzsz : z.cells.size = tsz E.P e := by rw [hzs]; exact ((hzv.cells hzok).1).symm
    split at h
    · rename_i news hel
      obtain ⟨hns, h⟩ := h
      have hlen := fun w' => run_lenOf (E := E) hxv hel w'
      obtain ⟨us, husc, hnew⟩ := run_firstCells hr hxv hel hns
      have husl : us.length = news.length * tsz E.P e := by rw [husc.1, flat_length hns]
      split at h
      · -- nothing yet
        obtain ⟨hb, hm, h0, h1⟩ := h
        obtain ⟨a, rfl⟩ : ∃ a, sv = .slice a 0 0 := by cases hsv; exact ⟨_, rfl⟩
        by_cases hne : news = []
        · subst hne
          have : us = [] := List.eq_nil_of_length_eq_zero (by simpa using husl)
          subst this
          exact ⟨_, _, run_append_zero ht hu hi hsize (by simpa using hlen) (by simpa using hnew) (Nat.le_refl 0), Res.same hr hsv (h0 rfl)⟩
        · have hpos : 0 < news.length := by
            cases news with
            | nil => exact absurd rfl hne
            | cons _ _ => simp
          rcases run_append_gen (ty := ty) (cap := 0) (n := 0) (a := a) (olds := []) ht hu hi hz hsize hlen hnew husl husc.2.1 (fun w' _ => by cases a <;> simp [Builtin.firstCells, loadCells, loadCellsFrom]) (by simp) (Nat.le_refl 0)
            (fun hh => by omega) (by simpa using hm) (by rw [← hby]; simpa using hb) with ⟨hh, _⟩ | ⟨c, c1, c2, hrun⟩
          · omega
          · simp only [Nat.zero_add] at hrun c1
            refine ⟨_, _, hrun, ?_⟩
            have key : ∀ (hx : ExtN Γ.next Γ w (Γ.alloc ⟨some w.heap.size, tsz E.P e, c, 0, none⟩) (w.drew.alloc (.cells (([] : List Value).toArray ++ (us.toArray ++ Builtin.zeroCells z.cells (c - news.length))) e))),
                ObjRel E.P (Γ.alloc ⟨some w.heap.size, tsz E.P e, c, 0, none⟩) (w.drew.alloc (.cells (([] : List Value).toArray ++ (us.toArray ++ Builtin.zeroCells z.cells (c - news.length))) e)) (.arr e 0 news) ⟨some w.heap.size, tsz E.P e, c, 0, none⟩ := by
              intro hx
              refine ⟨rfl, rfl, hns, c1, c2, _, (0, 0), heap_alloc_new w.drew _, .inl rfl, ?_, ?_⟩
              · simp only [Array.size_append, List.size_toArray, size_zeroCells, hzsz, husl, List.length_nil]
                rw [Nat.zero_add, ← Nat.add_mul]; congr 1; omega
              · refine row_rel hx hns husc ?_
                intro m v hv
                simp only [Array.getElem?_append, List.size_toArray, List.length_nil, Nat.not_lt_zero, if_false, Nat.sub_zero, List.getElem?_toArray]
                rw [if_pos (List.getElem?_eq_some_iff.1 hv).1]; exact hv
            obtain ⟨hx', hR⟩ := hr.new (grown_of_drew_alloc w _ none) (.inr ⟨_, rfl, Nat.le_refl _⟩) rfl key
            refine ⟨_, _, _, hx', hR, ?_, h1 hne⟩
            refine .rs σ.next 0 0 news.length _ c (by simp [Ctx.alloc, hr.next]) c1 ?_
            intro l hl
            simp [Ctx.alloc, hr.next] at hl
            subst hl
            exact ⟨Nat.le_refl _, fun _ => ⟨by simp, .inr (by simp), fun _ => rfl⟩⟩
      · -- an object
        rename_i ii gg off len
        split at h
        · rename_i T g' es hget
          obtain ⟨rfl, rfl, rfl, rfl, hb, hm, h⟩ := h
          obtain ⟨l, hl, ho, hlt⟩ := hr.loc hget
          obtain ⟨a, cap, rfl, hin, hlc, hat⟩ := hsv.rs_inv
          simp only [ObjRel] at ho
          obtain ⟨o1, o2, o3, o4, o5, o6⟩ := ho
          have hat' := (hat l hl).2 o1
          have hsz : l.sz = tsz E.P T := o2
          have hes : ∀ x ∈ es, x.cells.length = tsz E.P T := fun x hx => by rw [← hsz]; exact o3 x hx
          have hall : ∀ x ∈ es ++ news, x.cells.length = tsz E.P T := fun x hx => by
            rcases List.mem_append.1 hx with hx | hx
            · exact hes x hx
            · exact hns x hx
          have hold : ∃ olds : List Value, CellsRel Γ w (flat es) olds ∧ ∀ w', w'.heap = w.heap → (Builtin.firstCells (tsz E.P T) es.length (.slice a es.length cap)).run E.P w' = .ok olds.toArray w' := by
            have := run_firstCells (x := .rs ii gg 0 es.length) (es := es) hr hsv (by simp [aElems, hget]) hes
            exact this
          obtain ⟨olds, ho1, ho2⟩ := hold
          have holl : olds.length = es.length * tsz E.P T := by rw [ho1.1, flat_length hes]
          have hstep : ∀ (w' : World) (l' : Loc) (v : Value), w.grownBy w' l.blk → l'.gen = gg + 1 → (l'.blk = l.blk ∨ ∃ b', l'.blk = some b' ∧ w.heap.size ≤ b') →
              (∀ (hx : ExtN Γ.next Γ w (Γ.set ii l') w'), ObjRel E.P (Γ.set ii l') w' (.arr T (gg + 1) (es ++ news)) l') →
              l'.lim = none → (∃ a' cap', v = .slice a' (es.length + news.length) cap' ∧ es.length + news.length ≤ cap' ∧ l'.rsAt 0 (es.length + news.length) a' cap') → Res E Γ w K v w' := by
            rintro w' l' v hg hgen hblk hobj hlm ⟨a', cap', rfl, hc', hrs⟩
            obtain ⟨hx', hR⟩ := hr.upd hget hl hg (.inr (by omega)) hblk (fun b m _ hm => by rw [hr.lims _ _ _ hget hl] at hm; cases hm) (o' := .arr T (gg + 1) (es ++ news)) hlm hobj
            refine ⟨_, _, _, hx', hR, ?_, h⟩
            refine .rs ii (gg + 1) 0 _ a' cap' (by simpa [Ctx.set] using hin) hc' ?_
            intro l2 hl2
            simp [Ctx.set] at hl2
            subst hl2
            exact ⟨by omega, fun _ => hrs⟩
          by_cases hne : news = []
          · subst hne
            have : us = [] := List.eq_nil_of_length_eq_zero (by simpa using husl)
            subst this
            refine ⟨_, _, run_append_zero ht hu hi hsize (by simpa using hlen) (by simpa using hnew) hlc, ?_⟩
            refine hstep w { l with gen := gg + 1 } _ (grownBy_self w _) rfl (.inl rfl) ?_ (show l.lim = none from (hr.lims _ _ _ hget hl).trans rfl) ⟨a, cap, by simp, by simpa using hlc, ?_⟩
            · intro hx
              refine ⟨rfl, o2, by simpa using o3, by simpa using o4, o5, ?_⟩
              cases hb' : l.blk with
              | none => simp only [hb'] at o6 ⊢; simpa using o6
              | some b =>
                simp only [hb'] at o6 ⊢
                obtain ⟨xs, fr, q1, q2, q3, q4⟩ := o6
                refine ⟨xs, fr, q1, q2, q3, fun k y j x hk hj => ?_⟩
                obtain ⟨v, v1, v2, v3⟩ := q4 k y j x (by simpa using hk) hj
                exact ⟨v, v1, v2, by simpa only [hb'] using v3.ext hx⟩
            · unfold Loc.rsAt at hat' ⊢; simpa using hat'
          · have hpos : 0 < news.length := by
              cases news with
              | nil => exact absurd rfl hne
              | cons _ _ => simp
            have hrow : es.length + news.length ≤ cap → ∀ ad, a = some ad → ∃ b xs fr, ad = ⟨b, 0, none⟩ ∧ w.heap[b]? = some (.cells xs T fr) ∧ (fr.1 = fr.2 ∨ xs.size ≤ fr.1) ∧ xs.size = cap * tsz E.P T := by
              intro hroom ad had
              unfold Loc.rsAt at hat'
              cases hb' : l.blk with
              | none => simp only [hb'] at hat'; omega
              | some b =>
                simp only [hb'] at hat' o6
                obtain ⟨a1, a2, a3⟩ := hat'
                have := a3 (by first | rfl | trivial)
                rw [this] at had; cases had
                obtain ⟨xs, fr, q1, q2, q3, q4⟩ := o6
                exact ⟨b, xs, fr, rfl, q1, q2.imp id And.left, by rw [q3, hsz]; congr 1; omega⟩
            rcases run_append_gen (ty := ty) (cap := cap) (n := es.length) (a := a) (olds := olds) ht hu hi hz hsize hlen hnew husl husc.2.1 ho2 holl hlc hrow hm (by rw [← hby]; exact hb) with ⟨hroom, hrun⟩ | ⟨c, c1, c2, hrun⟩
            · -- in place
              refine ⟨_, _, hrun, ?_⟩
              unfold Loc.rsAt at hat'
              cases hb' : l.blk with
              | none => simp only [hb'] at hat'; omega
              | some b =>
                simp only [hb'] at hat' o6
                obtain ⟨a1, a2, a3⟩ := hat'
                have had := a3 (by first | rfl | trivial)
                subst had
                obtain ⟨xs, fr, q1, q2, q3, q4⟩ := o6
                have hcap : cap = l.cap := by omega
                have hin' : inPlace w (some ⟨b, 0, none⟩) (es.length * tsz E.P T) us = w.setRow b (xs.toList.take (es.length * tsz E.P T) ++ us ++ xs.toList.drop (es.length * tsz E.P T + us.length)).toArray := by
                  simp only [inPlace, q1]
                rw [hin']
                have hfit : es.length * tsz E.P T + us.length ≤ xs.size := by
                  rw [husl, q3, ← hcap, hsz, ← Nat.add_mul]; exact Nat.mul_le_mul_right _ hroom
                refine hstep _ { l with gen := gg + 1 } _ ⟨rfl, rfl, rfl, by simp, fun j _ hj => setRow_other w b j _ (fun e => hj (by rw [hb', e]))⟩ rfl (.inl rfl) ?_ (show l.lim = none from (hr.lims _ _ _ hget hl).trans rfl) ⟨_, cap, rfl, hroom, ?_⟩
                · intro hx
                  refine ⟨rfl, o2, fun y hy => by rw [hall y hy]; exact hsz.symm, by simp; omega, o5, ?_⟩
                  simp only [hb']
                  refine ⟨_, fr, setRow_heap w b xs _ T fr q1, ?_, ?_, ?_⟩
                  · rcases q2 with q2 | q2
                    · exact .inl q2
                    · right; simp; omega
                  · simp; omega
                  · intro k y j x hk hj
                    have hyl : y.cells.length = tsz E.P T := hall y (List.mem_of_getElem? hk)
                    have hjl : j < tsz E.P T := by rw [← hyl]; exact (List.getElem?_eq_some_iff.1 hj).1
                    simp only [List.getElem?_toArray, hsz]
                    rw [splice_get xs.toList us (es.length * tsz E.P T) (k * tsz E.P T + j) (by simpa using hfit)]
                    by_cases hkn : k < es.length
                    · rw [List.getElem?_append_left hkn] at hk
                      have : (k + 1) * tsz E.P T ≤ es.length * tsz E.P T := Nat.mul_le_mul_right _ hkn
                      rw [Nat.succ_mul] at this
                      rw [if_pos (by omega)]
                      obtain ⟨v, v1, v2, v3⟩ := q4 k y j x hk hj
                      rw [hsz] at v1
                      exact ⟨v, by simpa using v1, v2, by simpa only [hb', hsz] using v3.ext hx⟩
                    · rw [List.getElem?_append_right (by omega)] at hk
                      have hf := flat_get hns hk hj
                      have hfl := (List.getElem?_eq_some_iff.1 hf).1
                      rw [flat_length hns] at hfl
                      have e1 : k * tsz E.P T = es.length * tsz E.P T + (k - es.length) * tsz E.P T := by rw [← Nat.add_mul]; congr 1; omega
                      rw [if_neg (by rw [e1]; omega), if_pos (by rw [e1, husl]; omega)]
                      have e2 : k * tsz E.P T + j - es.length * tsz E.P T = (k - es.length) * tsz E.P T + j := by rw [e1]; omega
                      rw [e2]
                      have hul : (k - es.length) * tsz E.P T + j < us.length := by rw [husl]; exact hfl
                      have hu2 := List.getElem?_eq_getElem hul
                      exact ⟨_, hu2, husc.2.1 _ (List.mem_of_getElem? hu2), by simpa only [hb', hsz] using (husc.2.2 _ _ _ hf hu2).ext hx⟩
                · unfold Loc.rsAt
                  simp only [hb']
                  exact ⟨by omega, .inr (by simp), by simp⟩
            · -- in a new row
              refine ⟨_, _, hrun, ?_⟩
              refine hstep _ ⟨some w.heap.size, tsz E.P T, c, gg + 1, none⟩ _ (grown_of_drew_alloc w _ _) rfl (.inr ⟨_, rfl, Nat.le_refl _⟩) ?_ rfl ⟨_, c, rfl, c1, by simp, .inr (by simp), fun _ => rfl⟩
              intro hx
              refine ⟨rfl, rfl, hall, by simpa using c1, c2, _, (0, 0), heap_alloc_new w.drew _, .inl rfl, ?_, ?_⟩
              · simp only [Array.size_append, List.size_toArray, size_zeroCells, hzsz, husl, holl]
                rw [← Nat.add_mul, ← Nat.add_mul]; congr 1; omega
              · refine row_rel hx hall (us := olds ++ us) (by rw [flat_append]; exact ho1.append husc) ?_
                intro m v hv
                have hml := (List.getElem?_eq_some_iff.1 hv).1
                simp only [Array.getElem?_append, List.size_toArray, List.getElem?_toArray]
                rw [List.getElem?_append] at hv
                split
                · rw [if_pos (by assumption)] at hv; exact hv
                · rw [if_neg (by assumption)] at hv
                  rw [if_pos (by rw [List.length_append] at hml; omega)]
                  exact hv
        · exact h.elim
      · exact h.elim
    · exact h.elim
  · exact h.elim
end Go.AW
end

section
set_option linter.unusedVariables false
set_option linter.unusedSimpArgs false
set_option linter.unnecessarySimpa false
namespace Go.AW
open Go

/-- append onto nothing, or onto a row that only grows. -/
def aAppendL (E : Env) (t u : TypeId) (s x : AV) (σ : Store) (K : AV → Store → Prop) : Prop :=
  (tk E.P u = .str ∨ ∃ e, tk E.P u = .slc e) ∧ match tk E.P t with
    | .slc e => tsz E.P e ≠ 0 ∧ (azero E.P e).ok = true ∧ tsz E.P e = (azero E.P e).cells.length ∧ (match aElems σ x with
      | some news => (∀ a ∈ news, a.cells.length = tsz E.P e) ∧ (match s with
        | .nl => news.length * tby E.P e ≤ 140737488355328 ∧ news.length ≤ maxLen ∧ (news = [] → K .nl σ) ∧ (news ≠ [] → K (.lg σ.next news) (σ.alloc (.log e news.length)))
        | .lg i es => (match σ.get i with
          | some (.log T n) => T = e ∧ n = es.length ∧ (es.length + news.length) * tby E.P e ≤ 140737488355328 ∧ es.length + news.length ≤ maxLen ∧
              K (.lg i (es ++ news)) (σ.set i (.log e (es.length + news.length)))
          | _ => False)
        | _ => False)
      | none => False)
    | _ => False

/-- A new row that only grows. -/
theorem new_log {E : Env} {Γ : Ctx} {σ : Store} {w w' : World} {K : AV → Store → Prop} {e : TypeId} {es : List AV} {xs : Array Value} {fr : Nat × Nat} {c : Nat} (hr : R E Γ σ w)
    (hg : w.grownBy w' none) (hh : w'.heap[w.heap.size]? = some (.cells xs e fr)) (hfr : fr.1 = fr.2 ∨ xs.size ≤ fr.1 ∧ tsz E.P e = 1) (hs : ∀ x ∈ es, x.cells.length = tsz E.P e)
    (hrow0 : ∀ (k : Nat) (y : AV) (j : Nat) (x : AV), es[k]? = some y → y.cells[j]? = some x → ∃ u, xs[k * tsz E.P e + j]? = some u ∧ u.oneCell' = true ∧ VR Γ w x u)
    (hsz : xs.size = c * tsz E.P e) (h1 : es.length ≤ c) (h2 : c ≤ maxLen) (h : K (.lg σ.next es) (σ.alloc (.log e es.length))) : Res E Γ w K (.slice (some ⟨w.heap.size, 0, none⟩) es.length c) w' := by
  have key : ∀ (hx : ExtN Γ.next Γ w (Γ.alloc ⟨some w.heap.size, tsz E.P e, c, es.length, some (es.length * tsz E.P e)⟩) w'),
      ObjRel E.P (Γ.alloc ⟨some w.heap.size, tsz E.P e, c, es.length, some (es.length * tsz E.P e)⟩) w' (.log e es.length) ⟨some w.heap.size, tsz E.P e, c, es.length, some (es.length * tsz E.P e)⟩ :=
    fun hx => ⟨rfl, rfl, h1, h2, xs, fr, hh, hfr, hsz⟩
  obtain ⟨hx', hR⟩ := hr.new hg (.inr ⟨_, rfl, Nat.le_refl _⟩) rfl key
  refine ⟨_, _, _, hx', hR, ?_, h⟩
  have hrow : ∀ (k : Nat) (y : AV) (j : Nat) (x : AV), es[k]? = some y → y.cells[j]? = some x → ∃ u, xs[k * tsz E.P e + j]? = some u ∧ u.oneCell' = true ∧ VR (Γ.alloc ⟨some w.heap.size, tsz E.P e, c, es.length, some (es.length * tsz E.P e)⟩) w' x u := fun k y j x hk hj => by
    obtain ⟨u, a1, a2, a3⟩ := hrow0 k y j x hk hj
    exact ⟨u, a1, a2, a3.ext hx'⟩
  refine .lg σ.next es _ ?_ ?_ ?_
  · have hus : ∃ f : Nat → Nat → Value, ∀ (k : Nat) (y : AV) (j : Nat) (x : AV), es[k]? = some y → y.cells[j]? = some x → xs[k * tsz E.P e + j]? = some (f k j) ∧ (f k j).oneCell' = true ∧ VR (Γ.alloc ⟨some w.heap.size, tsz E.P e, c, es.length, some (es.length * tsz E.P e)⟩) w' x (f k j) := by
      refine ⟨fun k j => xs.getD (k * tsz E.P e + j) Go.undef, fun k y j x hk hj => ?_⟩
      obtain ⟨u, a1, a2, a3⟩ := hrow k y j x hk hj
      have : xs.getD (k * tsz E.P e + j) Go.undef = u := by simp [Array.getD_eq_getD_getElem?, a1]
      simp only [this]
      exact ⟨a1, a2, a3⟩
    obtain ⟨f, hf⟩ := hus
    refine .ps es _ c w.heap.size 0 f h1 (fun _ => ⟨rfl, (Array.getElem?_eq_some_iff.1 hh).1⟩) ?_ (fun k y j x hk hj => (hf k y j x hk hj).2.1) (fun k y j x hk hj => (hf k y j x hk hj).2.2)
    intro k y j x hk hj
    have hyl := hs y (List.mem_of_getElem? hk)
    rw [hyl]
    refine ⟨by simp [World.cell?, hh, (hf k y j x hk hj).1], ?_⟩
    intro i l hi hb
    simp only [Ctx.alloc] at hi
    split at hi
    · cases hi
      refine ⟨_, rfl, ?_⟩
      have hjl : j < tsz E.P e := by rw [← hyl]; exact (List.getElem?_eq_some_iff.1 hj).1
      have hkl := (List.getElem?_eq_some_iff.1 hk).1
      have : (k + 1) * tsz E.P e ≤ es.length * tsz E.P e := Nat.mul_le_mul_right _ hkl
      rw [Nat.succ_mul] at this
      omega
    · have := hr.blk_lt ⟨i, l, hi, hb⟩
      omega
  · refine .rs σ.next es.length 0 es.length _ c (by simp [Ctx.alloc, hr.next]) h1 ?_
    intro l hl
    simp [Ctx.alloc, hr.next] at hl
    subst hl
    exact ⟨Nat.le_refl _, fun _ => ⟨by simp, .inr (by simp), fun _ => rfl⟩⟩
  · intro l hl _ x hx
    simp [Ctx.alloc, hr.next] at hl
    subst hl
    exact hs x hx

theorem aAppendL_ok {E : Env} {Γ : Ctx} {σ : Store} {w : World} {t u ty : TypeId} {s x : AV} {sv xv : Value} {K : AV → Store → Prop} (hr : R E Γ σ w) (hsv : VR Γ w s sv) (hxv : VR Γ w x xv)
    (h : aAppendL E t u s x σ K) : ∃ v w', (Builtin.append_ #[t, u] ty #[sv, xv]).run E.P w = .ok v w' ∧ Res E Γ w K v w' := by
  obtain ⟨hu', h⟩ := h
  have hu : E.P.underlying u = some .string ∨ ∃ e', E.P.underlying u = some (.slice e') := by
    rcases hu' with hu' | ⟨e, hu'⟩
    · exact .inl (tk_str hu')
    · exact .inr ⟨e, tk_slc hu'⟩
  split at h
  · rename_i e ht'
    have ht := tk_slc ht'
    obtain ⟨hnz, hzok, hzs, h⟩ := h
    obtain ⟨i, hi, hsize⟩ : ∃ i, E.P.info? e = some i ∧ i.size = tsz E.P e := by
      unfold tsz cellsOf' at *
      cases hi : E.P.info? e with
      | none => simp [hi] at hnz
      | some i => exact ⟨i, rfl, by simp⟩
    have hby : tby E.P e = i.bytes := by simp [tby, hi]
    obtain ⟨z, hz, hzv⟩ : ∃ z, i.zero = some z ∧ VR Γ w (azero E.P e) z := by
      unfold azero tzero at *
      cases hzz : i.zero with
      | none => simp [hi, hzz, AV.ok] at hzok
      | some z => exact ⟨z, rfl, by simpa [hi, hzz] using VR.ofV Γ w z⟩
    have hzsz : z.cells.size = tsz E.P e := by rw [hzs]; exact ((hzv.cells hzok).1).symm
    split at h
    · rename_i news hel
      obtain ⟨hns, h⟩ := h
      have hlen := fun w' => run_lenOf (E := E) hxv hel w'
      obtain ⟨us, husc, hnew⟩ := run_firstCells hr hxv hel hns
      have husl : us.length = news.length * tsz E.P e := by rw [husc.1, flat_length hns]
      split at h
      · -- nothing yet
        obtain ⟨hb, hm, h0, h1⟩ := h
        obtain ⟨a, rfl⟩ : ∃ a, sv = .slice a 0 0 := by cases hsv; exact ⟨_, rfl⟩
        by_cases hne : news = []
        · subst hne
          have : us = [] := List.eq_nil_of_length_eq_zero (by simpa using husl)
          subst this
          exact ⟨_, _, run_append_zero ht hu hi hsize (by simpa using hlen) (by simpa using hnew) (Nat.le_refl 0), Res.same hr hsv (h0 rfl)⟩
        · have hpos : 0 < news.length := by
            cases news with
            | nil => exact absurd rfl hne
            | cons _ _ => simp
          rcases run_append_gen (ty := ty) (cap := 0) (n := 0) (a := a) (olds := []) ht hu hi hz hsize hlen hnew husl husc.2.1 (fun w' _ => by cases a <;> simp [Builtin.firstCells, loadCells, loadCellsFrom]) (by simp) (Nat.le_refl 0)
            (fun hh => by omega) (by simpa using hm) (by rw [← hby]; simpa using hb) with ⟨hh, _⟩ | ⟨c, c1, c2, hrun⟩
          · omega
          · simp only [Nat.zero_add] at hrun c1
            refine ⟨_, _, hrun, ?_⟩
            refine new_log hr (grown_of_drew_alloc w _ none) (heap_alloc_new w.drew _) (.inl rfl) hns (row_rel (ExtN.refl Γ w (Nat.le_refl _)) hns husc ?_) ?_ c1 c2 (h1 hne)
            · intro m v hv
              simp only [Array.getElem?_append, List.size_toArray, List.length_nil, Nat.not_lt_zero, if_false, Nat.sub_zero, List.getElem?_toArray]
              rw [if_pos (List.getElem?_eq_some_iff.1 hv).1]; exact hv
            · simp only [Array.size_append, List.size_toArray, size_zeroCells, hzsz, husl, List.length_nil]
              rw [Nat.zero_add, ← Nat.add_mul]; congr 1; omega
      · -- a row
        rename_i ii es
        split at h
        · rename_i T n hget
          obtain ⟨rfl, rfl, hb, hm, h⟩ := h
          obtain ⟨l, hl, ho, hlt⟩ := hr.loc hget
          have hlim := hr.lims _ _ _ hget hl
          cases hsv with
          | lg _ _ _ hps hrs hsz3 =>
          obtain ⟨a, cap, rfl, hin, hlc, hat⟩ := hrs.rs_inv
          simp only [ObjRel] at ho
          obtain ⟨o1, o2, o4, o5, o6⟩ := ho
          have hat' := (hat l hl).2 o1
          have hsz : l.sz = tsz E.P T := o2
          have hes : ∀ x ∈ es, x.cells.length = tsz E.P T := fun x hx => by rw [← hsz]; exact hsz3 l hl o1 x hx
          have hlim' : l.lim = some (es.length * tsz E.P T) := by rw [hlim, ← hsz]; rfl
          have hall : ∀ x ∈ es ++ news, x.cells.length = tsz E.P T := fun x hx => by
            rcases List.mem_append.1 hx with hx | hx
            · exact hes x hx
            · exact hns x hx
          obtain ⟨olds, ho1, ho2⟩ := run_firstCells (x := .ps es) (es := es) hr hps (by simp [aElems]) hes
          have holl : olds.length = es.length * tsz E.P T := by rw [ho1.1, flat_length hes]
          -- the row as it is read afterwards
          have hread : ∀ (w' : World) (l' : Loc) (hx : ExtN Γ.next Γ w (Γ.set ii l') w') (b : Nat) (ys : Array Value) (fr : Nat × Nat) (cap' : Nat), l'.blk = some b → l'.lim = some ((es.length + news.length) * tsz E.P T) → w'.heap[b]? = some (.cells ys T fr) →
              (∀ (m : Nat) (v : Value), (olds ++ us)[m]? = some v → ys[m]? = some v) → es.length + news.length ≤ cap' → (∀ j lj, j ≠ ii → Γ.get j = some lj → lj.blk ≠ some b) → VR (Γ.set ii l') w' (.ps (es ++ news)) (.slice (some ⟨b, 0, none⟩) (es.length + news.length) cap') := by
            intro w' l' hx b ys fr cap' hbl hlm hh hys hcap hoth
            have hrow := row_rel hx hall (us := olds ++ us) (by rw [flat_append]; exact ho1.append husc) hys
            obtain ⟨f, hf⟩ : ∃ f : Nat → Nat → Value, ∀ (k : Nat) (y : AV) (j : Nat) (x : AV), (es ++ news)[k]? = some y → y.cells[j]? = some x → ys[k * tsz E.P T + j]? = some (f k j) ∧ (f k j).oneCell' = true ∧ VR (Γ.set ii l') w' x (f k j) := by
              refine ⟨fun k j => ys.getD (k * tsz E.P T + j) Go.undef, fun k y j x hk hj => ?_⟩
              obtain ⟨v, a1, a2, a3⟩ := hrow k y j x hk hj
              have : ys.getD (k * tsz E.P T + j) Go.undef = v := by simp [Array.getD_eq_getD_getElem?, a1]
              simp only [this]
              exact ⟨a1, a2, a3⟩
            have := VR.ps (Γ := Γ.set ii l') (w := w') (es ++ news) (some ⟨b, 0, none⟩) cap' b 0 f (by simpa using hcap) (fun _ => ⟨rfl, (Array.getElem?_eq_some_iff.1 hh).1⟩) (by
              intro k y j x hk hj
              have hyl := hall y (List.mem_of_getElem? hk)
              rw [hyl]
              refine ⟨by simp [World.cell?, hh, (hf k y j x hk hj).1], ?_⟩
              intro i2 l2 hi2 hb2
              simp only [Ctx.set] at hi2
              split at hi2
              · cases hi2
                refine ⟨_, hlm, ?_⟩
                have hjl : j < tsz E.P T := by rw [← hyl]; exact (List.getElem?_eq_some_iff.1 hj).1
                have hkl := (List.getElem?_eq_some_iff.1 hk).1
                rw [List.length_append] at hkl
                have : (k + 1) * tsz E.P T ≤ (es.length + news.length) * tsz E.P T := Nat.mul_le_mul_right _ hkl
                rw [Nat.succ_mul] at this
                omega
              · rename_i hne; exact absurd hb2 (hoth i2 l2 hne hi2)) (fun k y j x hk hj => (hf k y j x hk hj).2.1) (fun k y j x hk hj => (hf k y j x hk hj).2.2)
            simpa using this
          by_cases hne : news = []
          · subst hne
            have : us = [] := List.eq_nil_of_length_eq_zero (by simpa using husl)
            subst this
            refine ⟨_, _, run_append_zero ht hu hi hsize (by simpa using hlen) (by simpa using hnew) hlc, ?_⟩
            simp only [List.append_nil, List.length_nil, Nat.add_zero] at h
            have hsame : σ.set ii (.log T es.length) = σ := by
              unfold Store.set
              cases σ with
              | mk gt nx =>
                simp only [Store.mk.injEq, and_true]
                funext j
                split
                · rename_i e; subst e; exact hget.symm
                · rfl
            rw [hsame] at h
            exact Res.same hr (.lg ii es _ hps hrs hsz3) h
          · have hpos : 0 < news.length := by
              cases news with
              | nil => exact absurd rfl hne
              | cons _ _ => simp
            have hrow : es.length + news.length ≤ cap → ∀ ad, a = some ad → ∃ b xs fr, ad = ⟨b, 0, none⟩ ∧ w.heap[b]? = some (.cells xs T fr) ∧ (fr.1 = fr.2 ∨ xs.size ≤ fr.1) ∧ xs.size = cap * tsz E.P T := by
              intro hroom ad had
              unfold Loc.rsAt at hat'
              cases hb' : l.blk with
              | none => simp only [hb'] at hat'; omega
              | some b =>
                simp only [hb'] at hat' o6
                obtain ⟨a1, a2, a3⟩ := hat'
                have := a3 (by first | rfl | trivial)
                rw [this] at had; cases had
                obtain ⟨xs, fr, q1, q2, q3⟩ := o6
                exact ⟨b, xs, fr, rfl, q1, q2.imp id And.left, by rw [q3, hsz]; congr 1; omega⟩
            rcases run_append_gen (ty := ty) (cap := cap) (n := es.length) (a := a) (olds := olds) ht hu hi hz hsize hlen hnew husl husc.2.1 ho2 holl hlc hrow hm (by rw [← hby]; exact hb) with ⟨hroom, hrun⟩ | ⟨c, c1, c2, hrun⟩
            · -- in place
              refine ⟨_, _, hrun, ?_⟩
              unfold Loc.rsAt at hat'
              cases hb' : l.blk with
              | none => simp only [hb'] at hat'; omega
              | some b =>
                simp only [hb'] at hat' o6
                obtain ⟨a1, a2, a3⟩ := hat'
                have had := a3 (by first | rfl | trivial)
                subst had
                obtain ⟨xs, fr, q1, q2, q3⟩ := o6
                have hcap : cap = l.cap := by omega
                have hin' : inPlace w (some ⟨b, 0, none⟩) (es.length * tsz E.P T) us = w.setRow b (xs.toList.take (es.length * tsz E.P T) ++ us ++ xs.toList.drop (es.length * tsz E.P T + us.length)).toArray := by
                  simp only [inPlace, q1]
                rw [hin']
                have hfit : es.length * tsz E.P T + us.length ≤ xs.size := by
                  rw [husl, q3, ← hcap, hsz, ← Nat.add_mul]; exact Nat.mul_le_mul_right _ hroom
                have hh := setRow_heap w b xs (xs.toList.take (es.length * tsz E.P T) ++ us ++ xs.toList.drop (es.length * tsz E.P T + us.length)).toArray T fr q1
                have hys0 : ∀ (m : Nat), m < es.length * tsz E.P T → (xs.toList.take (es.length * tsz E.P T) ++ us ++ xs.toList.drop (es.length * tsz E.P T + us.length)).toArray[m]? = xs[m]? := by
                  intro m hm
                  simp only [List.getElem?_toArray]
                  rw [splice_get xs.toList us (es.length * tsz E.P T) m (by simpa using hfit), if_pos hm]
                  simp
                have hold0 : ∀ (m : Nat) (v : Value), olds[m]? = some v → xs[m]? = some v := by
                  intro m v hv
                  cases hps with
                  | ps _ _ _ pb po pus phc pha phw ph1 ph =>
                    have hml := (List.getElem?_eq_some_iff.1 hv).1
                    rw [holl] at hml
                    have hpos2 : 0 < es.length := by
                      rcases Nat.eq_zero_or_pos es.length with h0 | h0
                      · rw [h0] at hml; omega
                      · exact h0
                    have hne2 : es ≠ [] := by intro e0; subst e0; simp at hpos2
                    obtain ⟨e1, e2⟩ := pha hne2
                    cases e1
                    have hf1 := ho2 w rfl
                    have hsome : ∀ (us' : List Value), us'.length = es.length * tsz E.P T → (∀ (j : Nat) (v : Value), us'[j]? = some v → w.cell? ((⟨b, 0, none⟩ : Addr).add j) = some v) → us' = olds := by
                      intro us' h1 h2
                      have := run_firstCells_some (P := E.P) w (tsz E.P T) es.length ⟨b, 0, none⟩ es.length cap us' h1 h2
                      rw [hf1] at this
                      cases this
                      rfl
                    have hx := hsome (xs.toList.take (es.length * tsz E.P T)) (by simp; omega) (by
                      intro j v hv
                      rw [addr_add]
                      rw [List.getElem?_take] at hv
                      split at hv
                      · simpa [World.cell?, q1] using hv
                      · cases hv)
                    rw [← hx, List.getElem?_take, if_pos hml] at hv
                    simpa using hv
                obtain ⟨hx', hR⟩ := hr.upd (w' := w.setRow b (xs.toList.take (es.length * tsz E.P T) ++ us ++ xs.toList.drop (es.length * tsz E.P T + us.length)).toArray) hget hl (l' := { l with gen := es.length + news.length, lim := some ((es.length + news.length) * tsz E.P T) }) (o' := .log T (es.length + news.length))
                  ⟨rfl, rfl, rfl, by simp, fun j _ hj => setRow_other w b j _ (fun e => hj (by rw [hb', e]))⟩ (.inr (by show l.gen < es.length + news.length; omega)) (.inl rfl) (by
                    intro b2 m hb2 hm
                    rw [hb'] at hb2; cases hb2
                    rw [hlim'] at hm; cases hm
                    refine ⟨fun k v hk hv => ?_, fun _ => ⟨_, rfl, Nat.mul_le_mul_right _ (by omega)⟩⟩
                    simp only [World.cell?, q1] at hv
                    simp only [World.cell?, hh, hys0 k hk]
                    exact hv) (by show some _ = some _; rw [hsz]) (by
                    intro hx
                    refine ⟨rfl, o2, by show _ ≤ l.cap; omega, o5, ?_⟩
                    simp only [hb']
                    refine ⟨_, fr, hh, ?_, ?_⟩
                    · rcases q2 with q2 | q2
                      · exact .inl q2
                      · right; simp; omega
                    · simp; omega)
                refine ⟨_, _, _, hx', hR, ?_, h⟩
                refine .lg ii _ _ (hread _ _ hx' b _ fr cap hb' rfl hh ?_ hroom ?_) ?_ (fun l2 hl2 _ x hx => by simp [Ctx.set] at hl2; subst hl2; rw [hall x hx]; exact hsz.symm)
                · intro m v hv
                  by_cases hml : m < es.length * tsz E.P T
                  · rw [hys0 m hml]
                    rw [List.getElem?_append_left (by omega)] at hv
                    exact hold0 m v hv
                  · rw [List.getElem?_append_right (by omega), holl] at hv
                    simp only [List.getElem?_toArray]
                    rw [splice_get xs.toList us (es.length * tsz E.P T) m (by simpa using hfit), if_neg hml, if_pos (by have := (List.getElem?_eq_some_iff.1 hv).1; omega)]
                    exact hv
                · intro j lj hj hlj hbj
                  exact hj (hr.inj j ii lj l b hlj hl hbj hb')
                · simp only [List.length_append]
                  refine .rs ii _ 0 _ _ cap (by simpa [Ctx.set] using hin) hroom ?_
                  intro l2 hl2
                  simp [Ctx.set] at hl2
                  subst hl2
                  refine ⟨Nat.le_refl _, fun _ => ?_⟩
                  unfold Loc.rsAt
                  simp only [hb']
                  exact ⟨by omega, .inr (by simp), by simp⟩
            · -- in a new row
              refine ⟨_, _, hrun, ?_⟩
              have hys : ∀ (m : Nat) (v : Value), (olds ++ us)[m]? = some v → (olds.toArray ++ (us.toArray ++ Builtin.zeroCells z.cells (c - (es.length + news.length))))[m]? = some v := by
                intro m v hv
                have hml := (List.getElem?_eq_some_iff.1 hv).1
                simp only [Array.getElem?_append, List.size_toArray, List.getElem?_toArray]
                rw [List.getElem?_append] at hv
                split
                · rw [if_pos (by assumption)] at hv; exact hv
                · rw [if_neg (by assumption)] at hv
                  rw [if_pos (by rw [List.length_append] at hml; omega)]
                  exact hv
              obtain ⟨hx', hR⟩ := hr.upd (w' := w.drew.alloc (.cells (olds.toArray ++ (us.toArray ++ Builtin.zeroCells z.cells (c - (es.length + news.length)))) T)) hget hl (l' := ⟨some w.heap.size, tsz E.P T, c, es.length + news.length, some ((es.length + news.length) * tsz E.P T)⟩) (o' := .log T (es.length + news.length))
                (grown_of_drew_alloc w _ _) (.inr (by show l.gen < es.length + news.length; omega)) (.inr ⟨_, rfl, Nat.le_refl _⟩) (by
                  intro b2 m hb2 hm
                  have hlt2 := hr.blk_lt ⟨ii, l, hl, hb2⟩
                  refine ⟨fun k v hk hv => ?_, fun e => ?_⟩
                  · rw [World.cell?_of_block (w := w) ((grown_of_drew_alloc w _ none).block b2 hlt2 (by simp))]; exact hv
                  · simp only [Option.some.injEq] at e; omega) rfl (by
                  intro hx
                  refine ⟨rfl, rfl, c1, c2, _, (0, 0), heap_alloc_new w.drew _, .inl rfl, ?_⟩
                  simp only [Array.size_append, List.size_toArray, size_zeroCells, hzsz, husl, holl]
                  rw [← Nat.add_mul, ← Nat.add_mul]; congr 1; omega)
              refine ⟨_, _, _, hx', hR, ?_, h⟩
              refine .lg ii _ _ (hread _ _ hx' w.heap.size _ (0, 0) c rfl rfl (heap_alloc_new w.drew _) hys c1 ?_) ?_ (fun l2 hl2 _ x hx => by simp [Ctx.set] at hl2; subst hl2; exact hall x hx)
              · intro j lj hj hlj hbj
                have := hr.blk_lt ⟨j, lj, hlj, hbj⟩
                omega
              · simp only [List.length_append]
                refine .rs ii _ 0 _ _ c (by simpa [Ctx.set] using hin) c1 ?_
                intro l2 hl2
                simp [Ctx.set] at hl2
                subst hl2
                exact ⟨Nat.le_refl _, fun _ => ⟨by simp, .inr (by simp), fun _ => rfl⟩⟩
        · exact h.elim
      · exact h.elim
    · exact h.elim
  · exact h.elim
end Go.AW
end

section
set_option linter.unusedVariables false
set_option linter.unusedSimpArgs false
set_option linter.unnecessarySimpa false
namespace Go.AW
open Go

/-! ### A new row, either of the store or written no more -/
/-- The cells of a new row stand for these elements. -/
def RowRel (Γ : Ctx) (w : World) (sz : Nat) (es : List AV) (xs : Array Value) : Prop :=
  (∀ e ∈ es, e.cells.length = sz) ∧ ∀ (k : Nat) (e : AV) (j : Nat) (x : AV), es[k]? = some e → e.cells[j]? = some x → ∃ u, xs[k * sz + j]? = some u ∧ u.oneCell' = true ∧ VR Γ w x u

theorem new_sealed {E : Env} {Γ : Ctx} {σ : Store} {w w' : World} {K : AV → Store → Prop} {e : TypeId} {es : List AV} {xs : Array Value} {fr : Nat × Nat} {cap : Nat} (hr : R E Γ σ w)
    (hrow : RowRel Γ w (tsz E.P e) es xs) (hcap : es.length ≤ cap) (hg : w.grownBy w' none) (hnew : w'.heap[w.heap.size]? = some (.cells xs e fr)) (h : K (.ps es) σ) :
    Res E Γ w K (.slice (some ⟨w.heap.size, 0, none⟩) es.length cap) w' := by
  obtain ⟨hx, hR⟩ := hr.same_ctx hg
  refine ⟨Γ, .ps es, σ, hx, hR, ?_, h⟩
  obtain ⟨h1, h2⟩ := hrow
  have key : ∀ (k : Nat) (y : AV) (j : Nat) (x : AV), es[k]? = some y → y.cells[j]? = some x → xs[k * y.cells.length + j]? = some (xs.getD (k * y.cells.length + j) Go.undef) ∧ (xs.getD (k * y.cells.length + j) Go.undef).oneCell' = true ∧ VR Γ w' x (xs.getD (k * y.cells.length + j) Go.undef) := by
    intro k y j x hk hj
    obtain ⟨u, u1, u2, u3⟩ := h2 k y j x hk hj
    rw [← h1 y (List.mem_of_getElem? hk)] at u1
    have : xs.getD (k * y.cells.length + j) Go.undef = u := by
      have hlt := (Array.getElem?_eq_some_iff.1 u1).1
      rw [Array.getD_eq_getD_getElem?, u1]; rfl
    rw [this]
    exact ⟨u1, u2, u3.ext hx⟩
  refine .ps es _ cap w.heap.size 0 (fun k j => xs.getD (k * (es.getD k .junk).cells.length + j) Go.undef) hcap (fun _ => ⟨rfl, (Array.getElem?_eq_some_iff.1 hnew).1⟩) ?_ ?_ ?_
  · intro k y j x hk hj
    have hgd : es.getD k .junk = y := by simp [List.getD, hk]
    obtain ⟨a1, a2, a3⟩ := key k y j x hk hj
    rw [hgd]
    refine ⟨?_, Ctx.fixd_of fun ho => absurd (hr.blk_lt ho) (Nat.lt_irrefl _)⟩
    simp only [World.cell?, hnew, Nat.zero_add]
    simpa using a1
  · intro k y j x hk hj
    have hgd : es.getD k .junk = y := by simp [List.getD, hk]
    rw [hgd]; exact (key k y j x hk hj).2.1
  · intro k y j x hk hj
    have hgd : es.getD k .junk = y := by simp [List.getD, hk]
    rw [hgd]; exact (key k y j x hk hj).2.2

theorem new_owned {E : Env} {Γ : Ctx} {σ : Store} {w w' : World} {K : AV → Store → Prop} {e : TypeId} {es : List AV} {xs : Array Value} {fr : Nat × Nat} {cap : Nat} (hr : R E Γ σ w)
    (hrow : RowRel Γ w (tsz E.P e) es xs) (hcap : es.length ≤ cap) (hm : cap ≤ maxLen) (hxs : xs.size = cap * tsz E.P e) (hfr : fr.1 = fr.2 ∨ xs.size ≤ fr.1 ∧ tsz E.P e = 1) (hg : w.grownBy w' none) (hnew : w'.heap[w.heap.size]? = some (.cells xs e fr))
    (h : K (.rs σ.next 0 0 es.length) (σ.alloc (.arr e 0 es))) :
    Res E Γ w K (.slice (some ⟨w.heap.size, 0, none⟩) es.length cap) w' := by
  obtain ⟨h1, h2⟩ := hrow
  have key : ∀ (hx : ExtN Γ.next Γ w (Γ.alloc ⟨some w.heap.size, tsz E.P e, cap, 0, none⟩) w'), ObjRel E.P (Γ.alloc ⟨some w.heap.size, tsz E.P e, cap, 0, none⟩) w' (.arr e 0 es) ⟨some w.heap.size, tsz E.P e, cap, 0, none⟩ := by
    intro hx
    refine ⟨rfl, rfl, h1, hcap, hm, xs, fr, hnew, hfr, hxs, fun k y j x hk hj => ?_⟩
    obtain ⟨u, u1, u2, u3⟩ := h2 k y j x hk hj
    exact ⟨u, u1, u2, u3.ext hx⟩
  obtain ⟨hx', hR⟩ := hr.new hg (.inr ⟨_, rfl, Nat.le_refl _⟩) rfl key
  refine ⟨_, _, _, hx', hR, ?_, h⟩
  refine .rs σ.next 0 0 es.length _ cap (by simp [Ctx.alloc, hr.next]) hcap ?_
  intro l hl
  simp [Ctx.alloc, hr.next] at hl
  subst hl
  exact ⟨Nat.le_refl _, fun _ => ⟨by simp, .inr (by simp), fun _ => rfl⟩⟩

/-! ### Conversions -/
def AV.byte : AV → UInt8
  | .c (.int .u8 n) => UInt8.ofNat n.toNat
  | _ => 0
def AV.isByte : AV → Bool
  | .c (.int .u8 _) => true
  | _ => false
@[simp] theorem byte_byteV (b : UInt8) : (byteV b).byte = b := by simp [byteV, AV.byte]
@[simp] theorem isByte_byteV (b : UInt8) : (byteV b).isByte = true := rfl
@[simp] theorem map_byte_byteV (l : List UInt8) : (l.map byteV).map AV.byte = l := by
  rw [List.map_map]; simp [Function.comp_def]

theorem isByte_ex {y : AV} (h : y.isByte = true) : ∃ n, y = .c (.int .u8 n) := by
  unfold AV.isByte at h
  split at h
  · exact ⟨_, rfl⟩
  · cases h

def aConv (E : Env) (own : Nat) (s d : TypeId) (x : AV) (σ : Store) (K : AV → Store → Prop) : Prop :=
  tk E.P s ≠ .other ∧ match tk E.P d with
    | .int k => (match x with
      | .c (.int _ n) => K (.c (.int k (k.wrap n))) σ
      | _ => False)
    | .str => (match x with
      | .c (.string t) => K x σ
      | .c (.int _ n) => K (.c (.string (Utf8.encode n))) σ
      | _ => (match tk E.P s with
        | .slc e => tk E.P e = .int .u8 ∧ (match aElems σ x with
          | some es => (∀ a ∈ es, a.isByte = true) ∧ K (.c (.string ⟨(es.map AV.byte).toArray⟩)) σ
          | none => False)
        | _ => False))
    | .slc e => (match x with
      | .c (.string t) => tk E.P e = .int .u8 ∧ tsz E.P e = 1 ∧ t.size ≤ 140737488355328 ∧ (if own = 1 then K (.rs σ.next 0 0 t.size) (σ.alloc (.arr e 0 (t.data.toList.map byteV))) else if own = 2 then K (.lg σ.next (t.data.toList.map byteV)) (σ.alloc (.log e t.size)) else K (.ps (t.data.toList.map byteV)) σ)
      | .fs l => s = d ∧ tk E.P e = .int .u8 ∧ K (.ps (l.map byteV)) σ
      | _ => False)
    | _ => False

theorem under_of_tk {P : Program} {t : TypeId} (h : tk P t ≠ .other) : ∃ d, P.underlying t = some d := by
  unfold tk at h
  cases hu : P.underlying t with
  | none => simp [hu] at h
  | some d => exact ⟨d, rfl⟩

theorem rowRel_bytes (Γ : Ctx) (w w0 : World) (e : TypeId) (t : ByteArray) : RowRel Γ w 1 (t.data.toList.map byteV) (Lib.bytesCells w0 e t) := by
  refine ⟨fun y hy => ?_, ?_⟩
  · obtain ⟨b, _, rfl⟩ := List.mem_map.1 hy; rfl
  · intro k y j x hk hj
    rw [List.getElem?_map, Option.map_eq_some_iff] at hk
    obtain ⟨b, hb, rfl⟩ := hk
    cases j with
    | succ j => simp [byteV, AV.cells] at hj
    | zero =>
      simp [byteV, AV.cells] at hj
      subst hj
      have hlt := (List.getElem?_eq_some_iff.1 hb).1
      refine ⟨.int .u8 b.toNat, ?_, rfl, .c _ rfl⟩
      have hlt' : k < t.data.size := by simpa using hlt
      have hb' : t.data[k] = b := by
        have := (List.getElem?_eq_some_iff.1 hb).2
        simpa using this
      have hlt2 : k < t.size := hlt'
      have hb2 : t.data[k]? = some b := by simpa using hb
      simp [Lib.bytesCells, Array.getElem?_append, hlt2, hb2, hb']

/-- A step after which the blocks of the store are as they were. -/
theorem R.keep {E : Env} {Γ : Ctx} {σ : Store} {w w' : World} (h : R E Γ σ w) (hx : ExtN Γ.next Γ w Γ w') (ho : ∀ b, Γ.owns b → w'.heap[b]? = w.heap[b]?) : R E Γ σ w' := by
  refine ⟨h.next, h.dom, h.bnd, h.inj, ?_, fun g cs hg => (h.glob g cs hg).ext hx, h.gbel, Nat.le_trans h.base hx.size, h.lims⟩
  intro j oj lj hoj hlj
  have hr := h.objs j oj lj hoj hlj
  have hsame : ∀ b, lj.blk = some b → w'.heap[b]? = w.heap[b]? := fun b hb => ho b ⟨j, lj, hlj, hb⟩
  cases oj with
  | arr T g es =>
    simp only [ObjRel] at hr ⊢
    obtain ⟨h1, h2, h3, h4, h5, h6⟩ := hr
    refine ⟨h1, h2, h3, h4, h5, ?_⟩
    cases hb : lj.blk with
    | none => simp only [hb] at h6 ⊢; exact h6
    | some b =>
      simp only [hb] at h6 ⊢
      obtain ⟨xs, fr, q1, q2, q3, q4⟩ := h6
      refine ⟨xs, fr, (hsame b hb).trans q1, q2, q3, fun k e j x hk hj => ?_⟩
      obtain ⟨u, u1, u2, u3⟩ := q4 k e j x hk hj
      exact ⟨u, u1, u2, u3.ext hx⟩
  | map ents born clock =>
    obtain ⟨h0, b, es, q1, q2, q3, q4, q5⟩ := hr
    exact ⟨h0, b, es, q1, (hsame b q1).trans q2, q3, fun k e en hk hen => ⟨(q4 k e en hk hen).1, (q4 k e en hk hen).2.ext hx⟩, q5⟩
  | lp b L vs =>
    obtain ⟨h0, q1, q2, q3, q4⟩ := hr
    exact ⟨h0, q1, (hsame b q1).trans q2, q3, fun t a v h1 h2 => (q4 t a v h1 h2).ext hx⟩
  | it o =>
    obtain ⟨h0, b, q1, q2, q3⟩ := hr
    exact ⟨h0, b, q1, (hsame b q1).trans q2, q3⟩
  | mi m since seen last =>
    obtain ⟨h0, b, bm, q1, q2, q3⟩ := hr
    exact ⟨h0, b, bm, q1, (hsame b q1).trans q2, q3.ext hx⟩
  | log T m =>
    simp only [ObjRel] at hr ⊢
    obtain ⟨h1, h2, h3, h4, h5⟩ := hr
    refine ⟨h1, h2, h3, h4, ?_⟩
    cases hb : lj.blk with
    | none => simp only [hb] at h5 ⊢; exact h5
    | some b =>
      simp only [hb] at h5 ⊢
      obtain ⟨xs, fr, q1, q2⟩ := h5
      exact ⟨xs, fr, (hsame b hb).trans q1, q2⟩

/-- The conversion of a literal's bytes to their own type: the mark behind the row. -/
theorem fs_conv {E : Env} {Γ : Ctx} {σ : Store} {w : World} {t e : TypeId} {l : List UInt8} {xv : Value} {K : AV → Store → Prop} (hr : R E Γ σ w) (hx : VR Γ w (.fs l) xv)
    (ht : E.P.underlying t = some (.slice e)) (he : E.P.underlying e = some (.int .u8)) (h : K (.ps (l.map byteV)) σ) : Up E Γ w K ((do pure (.value (← convert t t xv)) : Sem Next).run E.P w) := by
  cases hx with
  | fs l b cap hb hc hh =>
    obtain ⟨xs, ty, fr, h1, h2⟩ := hh
    have hsh : w.shape? b = some (ty, xs.size) := by unfold World.shape?; rw [h1]
    have hrun : (convert t t (.slice (some ⟨b, 0, none⟩) l.length cap)).run E.P w = .ok (.slice (some ⟨b, 0, none⟩) l.length cap) (w.freeze ⟨b, xs.size, none⟩ 1) := by
      simp [convert, run_underlying ht, run_underlying he, markStringish, hsh]
    have hheap : ∀ k, (w.freeze ⟨b, xs.size, none⟩ 1).heap[k]? = if k = b then some (.cells xs ty (if fr.1 == fr.2 then (xs.size, xs.size + 1) else (min fr.1 xs.size, max fr.2 (xs.size + 1)))) else w.heap[k]? := by
      intro k
      unfold World.freeze
      rw [if_neg (by decide)]
      simp only [Array.getElem?_modify]
      split
      · rename_i e; subst e; rw [h1]; simp
      · rename_i e; rw [if_neg (fun e' => e e'.symm)]
    have hsz : (w.freeze ⟨b, xs.size, none⟩ 1).heap.size = w.heap.size := by
      unfold World.freeze
      rw [if_neg (by decide)]
      simp
    have hx : ExtN Γ.next Γ w Γ (w.freeze ⟨b, xs.size, none⟩ 1) := by
      refine ⟨by unfold World.freeze; rw [if_neg (by decide)], by unfold World.freeze; rw [if_neg (by decide)], by unfold World.freeze; rw [if_neg (by decide)], Nat.le_of_eq hsz.symm, fun k hk ho => ⟨?_, ho⟩, fun k m hk hf => ⟨fun v hv => ?_, hf⟩,
        fun i l' _ hi => ⟨l', hi, Nat.le_refl _, fun _ => rfl⟩, Nat.le_refl _, Nat.le_refl _, rfl⟩
      · rw [hheap k]
        split
        · rename_i e; subst e; exact .inr ⟨hb.2.2, xs, ty, fr, _, h1, rfl⟩
        · exact .inl rfl
      · have hh := hheap k
        by_cases e0 : k = b
        · subst e0
          rw [if_pos rfl] at hh
          simp only [World.cell?, h1] at hv
          simp only [World.cell?, hh]
          exact hv
        · rw [if_neg e0] at hh
          simp only [World.cell?] at hv
          simp only [World.cell?, hh]
          exact hv
    have hR := hr.keep hx fun k hk => by
      have hne : k ≠ b := by intro e0; subst e0; exact hb.1 hk
      rw [hheap k, if_neg hne]
    refine Up.value hrun ⟨Γ, _, σ, hx, hR, ?_, h⟩
    have hl : (l.map byteV).length = l.length := by simp
    rw [← hl]
    refine .ps (l.map byteV) _ cap b 0 (fun k j => .int .u8 (l.getD k 0).toNat) (by simpa using hc) (fun _ => ⟨rfl, by rw [hsz]; exact hb.2.1⟩) ?_ (fun _ _ _ _ _ _ => rfl) ?_
    all_goals
      intro k y j x hk hj
      rw [List.getElem?_map, Option.map_eq_some_iff] at hk
      obtain ⟨u, hu, rfl⟩ := hk
      cases j with
      | succ j => simp [byteV, AV.cells] at hj
      | zero =>
        have hgd : l.getD k 0 = u := by simp [List.getD, hu]
        simp [byteV, AV.cells] at hj
        subst hj
        first
        | (rw [hgd]; exact .c _ rfl)
        | (have := hheap b
           rw [if_pos rfl] at this
           have e1 : 0 + k * (byteV u).cells.length + 0 = k := by simp [byteV, AV.cells]
           have e2 : (w.freeze ⟨b, xs.size, none⟩ 1).cell? ⟨b, k, none⟩ = xs[k]? := by unfold World.cell?; rw [this]; rfl
           exact ⟨by rw [e1, e2, h2 k u hu, hgd], Ctx.fixd_of hb.1⟩)

theorem aConv_ok {E : Env} {Γ : Ctx} {σ : Store} {w : World} {own : Nat} {s d : TypeId} {x : AV} {xv : Value} {K : AV → Store → Prop} (hr : R E Γ σ w) (hx : VR Γ w x xv) (h : aConv E own s d x σ K) :
    Up E Γ w K ((do pure (.value (← convert s d xv)) : Sem Next).run E.P w) := by
  obtain ⟨hs, h⟩ := h
  obtain ⟨ds, hds⟩ := under_of_tk hs
  split at h
  · rename_i k hd
    have hd' := tk_int hd
    split at h
    · cases hx
      refine Up.value (w' := w) ?_ (Res.same hr (.c _ rfl) h)
      simp [convert, run_underlying hds, run_underlying hd', Conv.intToInt]
    · exact h.elim
  · rename_i hd
    have hd' := tk_str hd
    split at h
    · rename_i t
      have hx0 := hx
      cases hx
      refine Up.value (w' := w) ?_ (Res.same hr hx0 h)
      simp [convert, run_underlying hds, run_underlying hd']
    · rename_i kk n
      cases hx
      refine Up.value (v := .string (Utf8.encode n)) (w' := w) ?_ (Res.same hr (.c _ rfl) h)
      simp [convert, run_underlying hds, run_underlying hd', Conv.intToString]
    · rename_i hnot hnot'
      split at h
      · rename_i e hse
        have hse' := tk_slc hse
        obtain ⟨he, h⟩ := h
        have he' := tk_int he
        split at h
        · rename_i es hel
          obtain ⟨hby, h⟩ := h
          have hs1 : ∀ y ∈ es, y.cells.length = 1 := by
            intro y hy
            have := hby y hy
            cases y <;> simp_all [AV.isByte, AV.cells]
          obtain ⟨us, hus, hrun⟩ := run_firstCells hr hx hel hs1
          have hcv : ∃ a cap, xv = .slice a es.length cap := by
            unfold aElems at hel
            split at hel
            · cases hel; cases hx; exact ⟨_, _, rfl⟩
            · cases hel; cases hx; exact ⟨_, _, rfl⟩
            · exact (hnot _ rfl).elim
            · split at hel
              · split at hel
                · rename_i hc; cases hel; cases hx; rename_i es0 off0 len0 _ _ a0 cap0 _ _ _; exact ⟨a0, cap0, by simp; omega⟩
                · cases hel
              · cases hel
            · cases hel
          obtain ⟨a, cap, rfl⟩ := hcv
          have hflat : flat es = es := by
            unfold flat
            clear hrun hus hel h hx
            induction es with
            | nil => rfl
            | cons y ys ih =>
              rw [List.flatMap_cons, ih (fun z hz => hby z (by simp [hz])) (fun z hz => hs1 z (by simp [hz]))]
              have := hby y (by simp)
              cases y <;> simp_all [AV.isByte, AV.cells]
          rw [hflat] at hus
          have hns : us = (us.map fun u => match u with | .int _ n => n | _ => 0).map (Value.int .u8) := by
            refine List.ext_getElem? fun j => ?_
            rw [List.map_map, List.getElem?_map]
            cases hu : us[j]? with
            | none => rfl
            | some u =>
              have hlt := (List.getElem?_eq_some_iff.1 hu).1
              rw [hus.1] at hlt
              have hy := List.getElem?_eq_getElem hlt
              have hv := hus.2.2 j _ u hy hu
              have hb := hby _ (List.mem_of_getElem? hy)
              generalize es[j] = y at hv hb
              obtain ⟨n, rfl⟩ := isByte_ex hb
              cases hv
              rfl
          have hbs : es.map AV.byte = (us.map fun u => match u with | .int _ n => n | _ => 0).map fun n => UInt8.ofNat n.toNat := by
            refine List.ext_getElem? fun j => ?_
            rw [List.map_map, List.getElem?_map, List.getElem?_map]
            cases hy : es[j]? with
            | none =>
              have : us[j]? = none := by rw [List.getElem?_eq_none_iff] at hy ⊢; rw [hus.1]; exact hy
              rw [this]; rfl
            | some y =>
              have hlt := (List.getElem?_eq_some_iff.1 hy).1
              rw [← hus.1] at hlt
              have hu := List.getElem?_eq_getElem hlt
              have hv := hus.2.2 j _ _ hy hu
              have hb := hby _ (List.mem_of_getElem? hy)
              rw [hu]
              generalize us[j] = u at hv
              obtain ⟨n, rfl⟩ := isByte_ex hb
              cases hv
              rfl
          refine Up.value (v := .string ⟨(es.map AV.byte).toArray⟩) (w' := w) ?_ (Res.same hr (.c _ rfl) h)
          rw [run_convert_bytes_string w s d e a es.length cap hse' he' hd']
          cases a with
          | none =>
            have h0 := hrun w rfl
            simp [Builtin.firstCells] at h0
            have : us = [] := by
              cases us with
              | nil => rfl
              | cons _ _ => simp at h0
            have hes : es = [] := List.eq_nil_of_length_eq_zero (by rw [← hus.1, this]; rfl)
            subst hes
            simp [Conv.bytesToString]; rfl
          | some ad =>
            have h0 := hrun w rfl
            simp only [Builtin.firstCells, Nat.mul_one] at h0
            rw [hns] at h0
            rw [run_bytesToString w ad es.length cap _ h0]
            congr 2
            rw [hbs]
            generalize (us.map fun u => match u with | .int _ n => n | _ => 0) = ns
            have : ∀ (ns : List Int) (r : ByteArray), ns.foldl (fun r n => r.push (UInt8.ofNat n.toNat)) r = ⟨r.data ++ (ns.map fun n => UInt8.ofNat n.toNat).toArray⟩ := by
              intro ns
              induction ns with
              | nil => intro r; simp
              | cons n ns ih => intro r; simp only [List.foldl_cons, ih, List.map_cons]; simp [ByteArray.push]
            rw [this]
            simp
        · exact h.elim
      · exact h.elim
  · rename_i e hd
    have hd' := tk_slc hd
    split at h
    · rename_i t
      cases hx
      obtain ⟨he, hsz, hsize, h⟩ := h
      have he' := tk_int he
      have hrun := Lib.run_convert_string_bytes w s d e t hds hd' he'
      have hg : w.grownBy (Lib.bytesWorld w e t) none := ⟨rfl, rfl, rfl, by rw [Lib.bytesWorld_size]; omega, fun k hk _ => Lib.bytesWorld_at_old w e t k hk⟩
      have hlen : (t.data.toList.map byteV).length = t.size := by simp
      have hcap := grownCap_ge w t.size 0 e
      refine Up.value hrun ?_
      split at h
      · have hm := grownCap_le_maxLen w t.size 0 e (by simp only [maxLen]; omega)
        have := new_owned (e := e) (es := t.data.toList.map byteV) (cap := grownCap w t.size 0 e) (K := K) hr (by rw [hsz]; exact rowRel_bytes Γ w w e t) (by rw [hlen]; exact hcap) hm
          (by rw [hsz]; simp only [Lib.bytesCells, Array.size_append, Array.size_map, Array.size_replicate, Nat.mul_one]; have : t.data.size = t.size := rfl; omega) (.inr ⟨Nat.le_refl _, hsz⟩) hg (Lib.bytesWorld_at_new w e t) (by rw [hlen]; exact h)
        rwa [hlen] at this
      · split at h
        · have hm := grownCap_le_maxLen w t.size 0 e (by simp only [maxLen]; omega)
          have hrow := rowRel_bytes Γ w w e t
          have := new_log (e := e) (es := t.data.toList.map byteV) (c := grownCap w t.size 0 e) (K := K) hr hg (Lib.bytesWorld_at_new w e t) (.inr ⟨Nat.le_refl _, hsz⟩) (by rw [hsz]; exact hrow.1) (by rw [hsz]; exact hrow.2)
            (by rw [hsz]; simp only [Lib.bytesCells, Array.size_append, Array.size_map, Array.size_replicate, Nat.mul_one]; have : t.data.size = t.size := rfl; omega) (by rw [hlen]; exact hcap) hm (by rw [hlen]; exact h)
          rwa [hlen] at this
        · have := new_sealed (e := e) (es := t.data.toList.map byteV) (cap := grownCap w t.size 0 e) (K := K) hr (by rw [hsz]; exact rowRel_bytes Γ w w e t) (by rw [hlen]; exact hcap) hg (Lib.bytesWorld_at_new w e t) h
          rwa [hlen] at this
    · obtain ⟨rfl, he, h⟩ := h
      exact fs_conv hr hx hd' (tk_int he) h
    · exact h.elim
  · exact h.elim
end Go.AW
end
