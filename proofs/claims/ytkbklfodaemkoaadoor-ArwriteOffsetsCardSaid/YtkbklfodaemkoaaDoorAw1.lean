/- The abstract values and the abstract store; how they stand to Go's values and memory; what a step of the machine keeps. No condition. -/
import Derived.Tactics
import Derived.Laws.Cells
import Derived.Laws.AppendOwn
import Derived.Deep.Draws
import Derived.RangeFuncRecord
import Derived.OrdersIn
import Derived.TacticsIn
set_option linter.unusedVariables false
set_option linter.unusedSimpArgs false
set_option linter.unnecessarySimpa false
namespace Go.AW
open Go

/-- An abstract value: 'c': a value of one cell that holds no address; 'nl': a slice without room; 'ps', 'pp': a slice, a pointer into memory that is written no more; 'rs', 'rp', 'mp': a slice, a pointer, a map of the store; 'rc': a slice of the store whose capacity is known; 'lg': a row that only grows: these elements, and the store's object i says whether nothing stands behind them. -/
inductive AV where
  | c (v : Value)
  | junk
  | nl
  | agg (cs : List AV)
  | tup (vs : List AV)
  | ps (es : List AV)
  | fs (l : List UInt8)
  | pp (cs : List AV)
  | rs (i g off len : Nat)
  | rc (i g off len cap : Nat)
  | lg (i : Nat) (es : List AV)
  | rp (i g k off : Nat)
  | mp (i : Nat)
  | fn (f : Fn) (first cap : List AV)
  | ifc (t : TypeId) (v : AV)
  deriving Inhabited

def AV.cells : AV → List AV
  | .agg cs => cs
  | a => [a]

/-- Where an object of the store lies: its block (none: a nil slice), cells per element, capacity in elements, generation; 'lim': of a row that only grows: as many cells are written no more. -/
structure Loc where
  blk : Option Nat
  sz : Nat
  cap : Nat
  gen : Nat
  lim : Option Nat := none

/-- The objects of the store, where they lie; 'base': the blocks from here on were made since the first call began. -/
structure Ctx where
  get : Nat → Option Loc
  next : Nat
  base : Nat

def Ctx.owns (Γ : Ctx) (b : Nat) : Prop := ∃ i l, Γ.get i = some l ∧ l.blk = some b

/-- This cell is written no more. -/
def Ctx.fixd (Γ : Ctx) (b n : Nat) : Prop := ∀ i l, Γ.get i = some l → l.blk = some b → ∃ m, l.lim = some m ∧ n < m
theorem Ctx.fixd_of {Γ : Ctx} {b n : Nat} (h : ¬ Γ.owns b) : Γ.fixd b n := fun i l hi hb => absurd ⟨i, l, hi, hb⟩ h

def Loc.rsAt (l : Loc) (off len : Nat) (a : Option Addr) (cap : Nat) : Prop :=
  match l.blk with
  | none => off = 0 ∧ len = 0 ∧ cap = 0
  | some b => off + cap = l.cap ∧ (cap = 0 ∨ a = some ⟨b, off * l.sz, none⟩) ∧ (off = 0 → a = some ⟨b, 0, none⟩)

inductive VR (Γ : Ctx) (w : World) : AV → Value → Prop
  | c (v : Value) (h : v.oneCell' = true) : VR Γ w (.c v) v
  | junk (v : Value) : VR Γ w .junk v
  | nl (a : Option Addr) : VR Γ w .nl (.slice a 0 0)
  | agg (cs : List AV) (xs : Array Value) (hs : cs.length = xs.size) (h1 : ∀ (j : Nat) (x : Value), xs[j]? = some x → x.oneCell' = true)
      (h : ∀ (j : Nat) (a : AV) (x : Value), cs[j]? = some a → xs[j]? = some x → VR Γ w a x) : VR Γ w (.agg cs) (.agg xs)
  | tup (cs : List AV) (xs : Array Value) (hs : cs.length = xs.size) (h : ∀ (j : Nat) (a : AV) (x : Value), cs[j]? = some a → xs[j]? = some x → VR Γ w a x) : VR Γ w (.tup cs) (.tuple xs)
  | ps (es : List AV) (a : Option Addr) (cap b o : Nat) (us : Nat → Nat → Value) (hc : es.length ≤ cap)
      (ha : es ≠ [] → a = some ⟨b, o, none⟩ ∧ b < w.heap.size)
      (hw : ∀ (k : Nat) (e : AV) (j : Nat) (x : AV), es[k]? = some e → e.cells[j]? = some x → w.cell? ⟨b, o + k * e.cells.length + j, none⟩ = some (us k j) ∧ Γ.fixd b (o + k * e.cells.length + j))
      (h1 : ∀ (k : Nat) (e : AV) (j : Nat) (x : AV), es[k]? = some e → e.cells[j]? = some x → (us k j).oneCell' = true)
      (h : ∀ (k : Nat) (e : AV) (j : Nat) (x : AV), es[k]? = some e → e.cells[j]? = some x → VR Γ w x (us k j)) : VR Γ w (.ps es) (.slice a es.length cap)
  | fs (l : List UInt8) (b cap : Nat) (hb : ¬ Γ.owns b ∧ b < w.heap.size ∧ Γ.base ≤ b) (hc : l.length ≤ cap)
      (hx : ∃ xs t fr, w.heap[b]? = some (.cells xs t fr) ∧ ∀ (k : Nat) (x : UInt8), l[k]? = some x → xs[k]? = some (.int .u8 x.toNat)) : VR Γ w (.fs l) (.slice (some ⟨b, 0, none⟩) l.length cap)
  | pp (cs : List AV) (b o : Nat) (us : Nat → Value) (hb : b < w.heap.size)
      (hw : ∀ (j : Nat) (x : AV), cs[j]? = some x → w.cell? ⟨b, o + j, none⟩ = some (us j) ∧ Γ.fixd b (o + j)) (h1 : ∀ (j : Nat) (x : AV), cs[j]? = some x → (us j).oneCell' = true)
      (h : ∀ (j : Nat) (x : AV), cs[j]? = some x → VR Γ w x (us j)) : VR Γ w (.pp cs) (.pointer (some ⟨b, o, none⟩))
  | rs (i g off len : Nat) (a : Option Addr) (cap : Nat) (hi : i < Γ.next) (hl : len ≤ cap) (h : ∀ l, Γ.get i = some l → g ≤ l.gen ∧ (l.gen = g → l.rsAt off len a cap)) :
      VR Γ w (.rs i g off len) (.slice a len cap)
  | rc (i g off len cap : Nat) (a : Option Addr) (hi : i < Γ.next) (hl : len ≤ cap) (h : ∀ l, Γ.get i = some l → g ≤ l.gen ∧ (l.gen = g → l.rsAt off len a cap)) :
      VR Γ w (.rc i g off len cap) (.slice a len cap)
  | lg (i : Nat) (es : List AV) (v : Value) (h1 : VR Γ w (.ps es) v) (h2 : VR Γ w (.rs i es.length 0 es.length) v) (h3 : ∀ l, Γ.get i = some l → l.gen = es.length → ∀ e ∈ es, e.cells.length = l.sz) : VR Γ w (.lg i es) v
  | rp (i g k off : Nat) (a : Addr) (hi : i < Γ.next) (h : ∀ l, Γ.get i = some l → g ≤ l.gen ∧ (l.gen = g → ∃ b, l.blk = some b ∧ a = ⟨b, k * l.sz + off, none⟩)) :
      VR Γ w (.rp i g k off) (.pointer (some a))
  | mp (i r : Nat) (hi : i < Γ.next) (h : ∀ l, Γ.get i = some l → l.gen = 0 → l.blk = some r) : VR Γ w (.mp i) (.map (some r))
  | fn (f : Fn) (first cap : List AV) (xs ys : Array Value) (hx : first.length = xs.size) (hy : cap.length = ys.size)
      (h : ∀ (j : Nat) (a : AV) (x : Value), first[j]? = some a → xs[j]? = some x → VR Γ w a x) (h' : ∀ (j : Nat) (a : AV) (x : Value), cap[j]? = some a → ys[j]? = some x → VR Γ w a x) :
      VR Γ w (.fn f first cap) (.func f xs ys)
  | ifc (t : TypeId) (a : AV) (v : Value) (h : VR Γ w a v) : VR Γ w (.ifc t a) (.iface t v)

/-- A block that is not of the store is as it was; of one that is not old the mark behind its cells may have turned. -/
def SameBlk (base b : Nat) (o o' : Option Obj) : Prop := o' = o ∨ (base ≤ b ∧ ∃ xs t fr fr', o = some (.cells xs t fr) ∧ o' = some (.cells xs t fr'))

theorem SameBlk.trans {base b : Nat} {o o' o'' : Option Obj} (h : SameBlk base b o o') (k : SameBlk base b o' o'') : SameBlk base b o o'' := by
  rcases h with rfl | ⟨h0, xs, t, fr, fr', h1, h2⟩
  · exact k
  · rcases k with rfl | ⟨_, xs', t', fr1, fr2, k1, k2⟩
    · exact .inr ⟨h0, xs, t, fr, fr', h1, h2⟩
    · rw [h2] at k1
      cases k1
      exact .inr ⟨h0, xs, t, fr, fr2, h1, k2⟩

/-- What a step keeps: whatever no object of the store owns is as it was; an object whose number is below n lies where it lay if its generation is the same. -/
structure ExtN (n : Nat) (Γ : Ctx) (w : World) (Γ' : Ctx) (w' : World) : Prop where
  os : w'.os = w.os
  tape : w'.tape = w.tape
  output : w'.output = w.output
  size : w.heap.size ≤ w'.heap.size
  sealed : ∀ b, b < w.heap.size → ¬ Γ.owns b → SameBlk Γ.base b w.heap[b]? w'.heap[b]? ∧ ¬ Γ'.owns b
  fixd : ∀ b k, b < w.heap.size → Γ.fixd b k → (∀ v, w.cell? ⟨b, k, none⟩ = some v → w'.cell? ⟨b, k, none⟩ = some v) ∧ Γ'.fixd b k
  locs : ∀ i l', i < n → Γ'.get i = some l' → ∃ l, Γ.get i = some l ∧ l.gen ≤ l'.gen ∧ (l.gen = l'.gen → l' = l)
  le : n ≤ Γ.next
  le' : n ≤ Γ'.next
  base : Γ'.base = Γ.base

theorem ExtN.refl {n : Nat} (Γ : Ctx) (w : World) (h : n ≤ Γ.next) : ExtN n Γ w Γ w :=
  ⟨rfl, rfl, rfl, Nat.le_refl _, fun _ _ h => ⟨.inl rfl, h⟩, fun _ _ _ h => ⟨fun _ h => h, h⟩, fun i l' _ h => ⟨l', h, Nat.le_refl _, fun _ => rfl⟩, h, h, rfl⟩

theorem ExtN.mono {n m : Nat} {Γ Γ' : Ctx} {w w' : World} (h : ExtN n Γ w Γ' w') (hm : m ≤ n) : ExtN m Γ w Γ' w' :=
  ⟨h.os, h.tape, h.output, h.size, h.sealed, h.fixd, fun i l' hi => h.locs i l' (by omega), Nat.le_trans hm h.le, Nat.le_trans hm h.le', h.base⟩

theorem ExtN.trans {n : Nat} {Γ Γ' Γ'' : Ctx} {w w' w'' : World} (h : ExtN n Γ w Γ' w') (k : ExtN n Γ' w' Γ'' w'') : ExtN n Γ w Γ'' w'' := by
  refine ⟨k.os.trans h.os, k.tape.trans h.tape, k.output.trans h.output, Nat.le_trans h.size k.size, ?_, ?_, ?_, h.le, k.le', k.base.trans h.base⟩
  · intro b hb ho
    obtain ⟨h1, h2⟩ := h.sealed b hb ho
    obtain ⟨k1, k2⟩ := k.sealed b (Nat.lt_of_lt_of_le hb h.size) h2
    rw [h.base] at k1
    exact ⟨h1.trans k1, k2⟩
  · intro b m hb hf
    obtain ⟨h1, h2⟩ := h.fixd b m hb hf
    obtain ⟨k1, k2⟩ := k.fixd b m (Nat.lt_of_lt_of_le hb h.size) h2
    exact ⟨fun v hv => k1 v (h1 v hv), k2⟩
  · intro i l'' hi hl
    obtain ⟨l', hl', g1, e1⟩ := k.locs i l'' hi hl
    obtain ⟨l, hl0, g0, e0⟩ := h.locs i l' hi hl'
    refine ⟨l, hl0, Nat.le_trans g0 g1, fun e => ?_⟩
    have : l'.gen = l''.gen := by omega
    rw [e1 this]
    exact e0 (by omega)

theorem cell_lt {w : World} {a : Addr} {v : Value} (h : w.cell? a = some v) : a.block < w.heap.size := World.block_lt_of_cell? w a h

theorem ExtN.cell {n : Nat} {Γ Γ' : Ctx} {w w' : World} (h : ExtN n Γ w Γ' w') {a : Addr} {v : Value} (hc : w.cell? a = some v) (ho : ¬ Γ.owns a.block) : w'.cell? a = some v := by
  rcases (h.sealed a.block (cell_lt hc) ho).1 with e | ⟨_, xs, t, fr, fr', e1, e2⟩
  · rw [World.cell?_of_block (w := w) e]
    exact hc
  · unfold World.cell? at hc ⊢
    rw [e1] at hc
    rw [e2]
    exact hc

/-- The step lemma: what stood for an abstract value still stands for it. -/
theorem VR.ext {Γ Γ' : Ctx} {w w' : World} (hx : ExtN Γ.next Γ w Γ' w') {a : AV} {v : Value} (h : VR Γ w a v) : VR Γ' w' a v := by
  induction h with
  | c v h => exact .c v h
  | junk v => exact .junk v
  | nl a => exact .nl a
  | agg cs xs hs h1 _ ih => exact .agg cs xs hs h1 ih
  | tup cs xs hs _ ih => exact .tup cs xs hs ih
  | ps es a cap b o us hc ha hw h1 _ ih =>
    refine .ps es a cap b o us hc (fun hne => ?_) ?_ h1 ih
    · obtain ⟨ha1, ha3⟩ := ha hne
      exact ⟨ha1, Nat.lt_of_lt_of_le ha3 hx.size⟩
    · intro k e j x hk hj
      have hne : es ≠ [] := by intro e0; subst e0; simp at hk
      obtain ⟨h2, h3⟩ := hw k e j x hk hj
      obtain ⟨h4, h5⟩ := hx.fixd b _ (ha hne).2 h3
      exact ⟨h4 _ h2, h5⟩
  | fs l b cap hb hc hh =>
    obtain ⟨xs, t, fr, h1, h2⟩ := hh
    obtain ⟨k1, k2⟩ := hx.sealed b hb.2.1 hb.1
    refine .fs l b cap ⟨k2, Nat.lt_of_lt_of_le hb.2.1 hx.size, by rw [hx.base]; exact hb.2.2⟩ hc ?_
    rcases k1 with e | ⟨_, xs', t', fr1, fr2, e1, e2⟩
    · exact ⟨xs, t, fr, e.trans h1, h2⟩
    · rw [h1] at e1
      cases e1
      exact ⟨xs, t, fr2, e2, h2⟩
  | pp cs b o us hb hw h1 _ ih =>
    exact .pp cs b o us (Nat.lt_of_lt_of_le hb hx.size) (fun j x hj => ⟨(hx.fixd b _ hb (hw j x hj).2).1 _ (hw j x hj).1, (hx.fixd b _ hb (hw j x hj).2).2⟩) h1 ih
  | rs i g off len a cap hi hl h =>
    refine .rs i g off len a cap (Nat.lt_of_lt_of_le hi hx.le') hl fun l' hl' => ?_
    obtain ⟨l, hg, h1, h2⟩ := hx.locs i l' hi hl'
    obtain ⟨h3, h4⟩ := h l hg
    refine ⟨by omega, fun e => ?_⟩
    have e' : l.gen = l'.gen := by omega
    rw [h2 e']
    exact h4 (by omega)
  | rc i g off len cap a hi hl h =>
    refine .rc i g off len cap a (Nat.lt_of_lt_of_le hi hx.le') hl fun l' hl' => ?_
    obtain ⟨l, hg, h1, h2⟩ := hx.locs i l' hi hl'
    obtain ⟨h3, h4⟩ := h l hg
    refine ⟨by omega, fun e => ?_⟩
    have e' : l.gen = l'.gen := by omega
    rw [h2 e']
    exact h4 (by omega)
  | lg i es v h1 h2 h3 ih1 ih2 =>
    refine .lg i es v ih1 ih2 fun l' hl' hg => ?_
    cases h2 with
    | rs _ _ _ _ a cap hi hl h =>
      obtain ⟨l, hgl, h4, h5⟩ := hx.locs i l' hi hl'
      have e : l.gen = l'.gen := by have := (h l hgl).1; omega
      rw [h5 e]
      exact h3 l hgl (by omega)
  | rp i g k off a hi h =>
    refine .rp i g k off a (Nat.lt_of_lt_of_le hi hx.le') fun l' hl' => ?_
    obtain ⟨l, hg, h1, h2⟩ := hx.locs i l' hi hl'
    obtain ⟨h3, h4⟩ := h l hg
    refine ⟨by omega, fun e => ?_⟩
    have e' : l.gen = l'.gen := by omega
    rw [h2 e']
    exact h4 (by omega)
  | mp i r hi h =>
    refine .mp i r (Nat.lt_of_lt_of_le hi hx.le') fun l' hl' e => ?_
    obtain ⟨l, hg, h1, h2⟩ := hx.locs i l' hi hl'
    have e' : l.gen = l'.gen := by omega
    rw [h2 e']
    exact h l hg (by omega)
  | fn f first cap xs ys hx' hy _ _ ih ih' => exact .fn f first cap xs ys hx' hy ih ih'
  | ifc t a v _ ih => exact .ifc t a v ih

/-- Every object of the store that it names has a number below m. -/
inductive Bel (m : Nat) : AV → Prop
  | c (v) : Bel m (.c v)
  | junk : Bel m .junk
  | nl : Bel m .nl
  | agg (cs : List AV) (h : ∀ a ∈ cs, Bel m a) : Bel m (.agg cs)
  | tup (cs : List AV) (h : ∀ a ∈ cs, Bel m a) : Bel m (.tup cs)
  | ps (es : List AV) (h : ∀ a ∈ es, Bel m a) : Bel m (.ps es)
  | fs (l : List UInt8) : Bel m (.fs l)
  | pp (es : List AV) (h : ∀ a ∈ es, Bel m a) : Bel m (.pp es)
  | rs (i g off len : Nat) (h : i < m) : Bel m (.rs i g off len)
  | rc (i g off len cap : Nat) (h : i < m) : Bel m (.rc i g off len cap)
  | lg (i : Nat) (es : List AV) (h : i < m) (h' : ∀ a ∈ es, Bel m a) : Bel m (.lg i es)
  | rp (i g k off : Nat) (h : i < m) : Bel m (.rp i g k off)
  | mp (i : Nat) (h : i < m) : Bel m (.mp i)
  | fn (f : Fn) (xs ys : List AV) (h : ∀ a ∈ xs, Bel m a) (h' : ∀ a ∈ ys, Bel m a) : Bel m (.fn f xs ys)
  | ifc (t : TypeId) (a : AV) (h : Bel m a) : Bel m (.ifc t a)

/-! ### The store -/
inductive AObj where
  | arr (T : TypeId) (gen : Nat) (es : List AV)
  | map (ents : List (Value × AV)) (born : List Nat) (clock : Nat)
  | log (T : TypeId) (n : Nat)
  | lp (b : Nat) (L : Loop)
  | it (o : Obj)
  | mi (m since : Nat) (seen : List Nat) (last : Nat)
  deriving Inhabited
/-- How many of its cells are written no more. -/
def AObj.lim (o : AObj) (l : Loc) : Option Nat := match o with
  | .log _ n => some (n * l.sz)
  | _ => none

structure Store where
  get : Nat → Option AObj
  next : Nat

def Store.set (σ : Store) (i : Nat) (o : AObj) : Store := ⟨fun j => if j = i then some o else σ.get j, σ.next⟩
def Store.alloc (σ : Store) (o : AObj) : Store := ⟨fun j => if j = σ.next then some o else σ.get j, σ.next + 1⟩

def cellsOf' (P : Program) (t : TypeId) : Nat := ((P.info? t).map (·.size)).getD 0

/-- An iterator over a string. -/
def itOk : Obj → Bool
  | .stringIter .. => true
  | .mapIter none _ _ _ => true
  | _ => false

def ObjRel (P : Program) (Γ : Ctx) (w : World) : AObj → Loc → Prop
  | .arr T g es, l => l.gen = g ∧ l.sz = cellsOf' P T ∧ (∀ e ∈ es, e.cells.length = l.sz) ∧ es.length ≤ l.cap ∧ l.cap ≤ maxLen ∧
    match l.blk with
    | none => es = [] ∧ l.cap = 0
    | some b => ∃ (xs : Array Value) (fr : Nat × Nat), w.heap[b]? = some (.cells xs T fr) ∧ (fr.1 = fr.2 ∨ xs.size ≤ fr.1 ∧ l.sz = 1) ∧ xs.size = l.cap * l.sz ∧
      ∀ (k : Nat) (e : AV) (j : Nat) (x : AV), es[k]? = some e → e.cells[j]? = some x → ∃ u, xs[k * l.sz + j]? = some u ∧ u.oneCell' = true ∧ VR Γ w x u
  | .map ents born clock, l => l.gen = 0 ∧ ∃ (b : Nat) (es : Array MapEntry), l.blk = some b ∧ w.heap[b]? = some (.map es clock) ∧ es.size = ents.length ∧
      (∀ (k : Nat) (e : MapEntry) (en : Value × AV), es[k]? = some e → ents[k]? = some en → e.key = en.1 ∧ VR Γ w en.2 e.val) ∧ es.toList.map (·.born) = born
  | .log T n, l => l.gen = n ∧ l.sz = cellsOf' P T ∧ n ≤ l.cap ∧ l.cap ≤ maxLen ∧
    match l.blk with
    | none => n = 0 ∧ l.cap = 0
    | some b => ∃ (xs : Array Value) (fr : Nat × Nat), w.heap[b]? = some (.cells xs T fr) ∧ (fr.1 = fr.2 ∨ xs.size ≤ fr.1 ∧ l.sz = 1) ∧ xs.size = l.cap * l.sz
  | .lp b L, l => l.gen = 0 ∧ l.blk = some b ∧ w.heap[b]? = some (.loop L)
  | .it o, l => l.gen = 0 ∧ ∃ b, l.blk = some b ∧ w.heap[b]? = some o ∧ itOk o = true
  | .mi m since seen last, l => l.gen = 0 ∧ ∃ b bm, l.blk = some b ∧ w.heap[b]? = some (.mapIter (some bm) since seen.toArray last) ∧ VR Γ w (.mp m) (.map (some bm))

/-- The program, what its variables hold, and with which values it may panic here. -/
structure Env where
  P : Program
  G : Nat → Option (List AV)
  pan : AV → Store → Prop

/-- What a variable of the program holds, and that its block has no more cells. -/
structure GR (Γ : Ctx) (w : World) (cs : List AV) (g : Nat) : Prop where
  vr : VR Γ w (.pp cs) (.pointer (some ⟨g, 0, none⟩))
  own : ¬ Γ.owns g
  blk : ∃ (xs : Array Value) (t : TypeId) (fr : Nat × Nat), w.heap[g]? = some (.cells xs t fr) ∧ xs.size = cs.length
theorem GR.ext {Γ Γ' : Ctx} {w w' : World} {cs : List AV} {g : Nat} (h : GR Γ w cs g) (hx : ExtN Γ.next Γ w Γ' w') : GR Γ' w' cs g := by
  obtain ⟨h1, h2, xs, t, fr, h3, h4⟩ := h
  obtain ⟨k1, k2⟩ := hx.sealed g (Array.getElem?_eq_some_iff.1 h3).1 h2
  refine ⟨h1.ext hx, k2, ?_⟩
  rcases k1 with e | ⟨_, xs', t', fr1, fr2, e1, e2⟩
  · exact ⟨xs, t, fr, e.trans h3, h4⟩
  · rw [h3] at e1
    cases e1
    exact ⟨xs, t, fr2, e2, h4⟩

structure R (E : Env) (Γ : Ctx) (σ : Store) (w : World) : Prop where
  next : Γ.next = σ.next
  dom : ∀ i, (Γ.get i).isSome = (σ.get i).isSome
  bnd : ∀ i, σ.next ≤ i → σ.get i = none
  inj : ∀ i j li lj b, Γ.get i = some li → Γ.get j = some lj → li.blk = some b → lj.blk = some b → i = j
  objs : ∀ i o l, σ.get i = some o → Γ.get i = some l → ObjRel E.P Γ w o l
  glob : ∀ g cs, E.G g = some cs → GR Γ w cs g
  gbel : ∀ g cs (m : Nat), E.G g = some cs → Bel m (.pp cs)
  base : Γ.base ≤ w.heap.size
  lims : ∀ i o l, σ.get i = some o → Γ.get i = some l → l.lim = o.lim l

theorem R.loc {E : Env} {Γ : Ctx} {σ : Store} {w : World} (h : R E Γ σ w) {i : Nat} {o : AObj} (hi : σ.get i = some o) : ∃ l, Γ.get i = some l ∧ ObjRel E.P Γ w o l ∧ i < σ.next := by
  have hd := h.dom i
  rw [hi] at hd
  obtain ⟨l, hl⟩ := Option.isSome_iff_exists.1 hd
  refine ⟨l, hl, h.objs i o l hi hl, ?_⟩
  rcases Nat.lt_or_ge i σ.next with h1 | h1
  · exact h1
  · rw [h.bnd i h1] at hi; cases hi

theorem R.blk_lt {E : Env} {Γ : Ctx} {σ : Store} {w : World} (h : R E Γ σ w) {b : Nat} (ho : Γ.owns b) : b < w.heap.size := by
  obtain ⟨i, l, hl, hb⟩ := ho
  have hd := h.dom i
  rw [hl] at hd
  obtain ⟨o, ho⟩ := Option.isSome_iff_exists.1 hd.symm
  have hr := h.objs i o l ho hl
  cases o with
  | arr T g es =>
    simp only [ObjRel, hb] at hr
    obtain ⟨_, _, _, _, _, xs, fr, hx, _⟩ := hr
    exact (Array.getElem?_eq_some_iff.1 hx).1
  | map ents born clock =>
    obtain ⟨_, b', es, hb', hx, _⟩ := hr
    have : b' = b := by rw [hb'] at hb; exact Option.some.inj hb
    subst this
    exact (Array.getElem?_eq_some_iff.1 hx).1
  | lp b' L =>
    obtain ⟨_, hb', hx⟩ := hr
    have : b' = b := by rw [hb'] at hb; exact Option.some.inj hb
    subst this
    exact (Array.getElem?_eq_some_iff.1 hx).1
  | it o =>
    obtain ⟨_, b', hb', hx, _⟩ := hr
    have : b' = b := by rw [hb'] at hb; exact Option.some.inj hb
    subst this
    exact (Array.getElem?_eq_some_iff.1 hx).1
  | mi m since seen last =>
    obtain ⟨_, b', bm, hb', hx, _⟩ := hr
    have : b' = b := by rw [hb'] at hb; exact Option.some.inj hb
    subst this
    exact (Array.getElem?_eq_some_iff.1 hx).1
  | log T n =>
    simp only [ObjRel, hb] at hr
    obtain ⟨_, _, _, _, xs, fr, hx, _⟩ := hr
    exact (Array.getElem?_eq_some_iff.1 hx).1
end Go.AW
