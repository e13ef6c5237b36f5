/- Maps of links as text, in plain words: the lines and their order. No condition, no program. -/
import Derived.Test.YtebjdgcnnonjoaaDoorM1
set_option linter.unusedVariables false
set_option linter.unusedSimpArgs false
set_option linter.unnecessarySimpa false
namespace Go.Proofs.YtebjdgcnnonjoaaDoor
open Go Go.AW
set_option maxRecDepth 100000

/-- A unit, a resolution, a slot, a map. -/
structure U where
  f : W
  m : W
  i : Int
  deriving DecidableEq
structure Sy where
  n : W
  b : Int
  z : Int
  a : Int
  u : Int
  deriving DecidableEq
structure Sl where
  n : W
  o : Int
  z : Int
  deriving DecidableEq
structure Mp where
  us : List U
  ss : List Sy
  ts : List Sl
  deriving DecidableEq
def Mp.e : Mp := ⟨[], [], []⟩
def big : Int := 9007199254740992
def inB (z : Int) : Bool := decide (0 ≤ z ∧ z ≤ 9007199254740992)
/-- The text of a number; '-' stands for a negative one. -/
def nt (z : Int) : W := if z < 0 then [45] else tx 10 z.toNat
def wUnit : W := [117, 110, 105, 116]
def wSymbol : W := [115, 121, 109, 98, 111, 108]
def wSlot : W := [115, 108, 111, 116]
def wEnd : W := [101, 110, 100]
def bnames : List W := [[], [115, 116, 114, 111, 110, 103], [119, 101, 97, 107], [99, 111, 109, 109, 111, 110], [117, 110, 100, 101, 102], [119, 101, 97, 107, 117, 110, 100, 101, 102]]
/-- The name of a binding. -/
def bnd (b : Int) : W := if 1 ≤ b ∧ b ≤ 5 then bnames.getD b.toNat [] else []
def U.ok (u : U) : Bool := decide (u.f ≠ []) && inB u.i && (decide (u.m ≠ []) || decide (u.i = 0))
def Sy.ok (s : Sy) : Bool := decide (s.n ≠ []) && decide (1 ≤ s.b ∧ s.b ≤ 5) && inB s.z && inB s.a && (inB s.u || decide (s.u = -1))
def Sl.ok (t : Sl) : Bool := decide (t.n ≠ []) && inB t.o && inB t.z
def Mp.ok (m : Mp) : Bool := m.us.all U.ok && m.ss.all Sy.ok && m.ts.all Sl.ok
/-- The words of a line. -/
def U.ws (u : U) : List W := if u.m = [] then [wUnit, esc u.f] else [wUnit, esc u.f, esc u.m, nt u.i]
def Sy.ws (s : Sy) : List W := [wSymbol, esc s.n, bnd s.b, nt s.z, nt s.a, nt s.u]
def Sl.ws (t : Sl) : List W := [wSlot, esc t.n, nt t.o, nt t.z]
def lnW (ws : List W) : W := jn 32 ws ++ [10]
def prU (l : List U) : W := l.flatMap fun u => lnW u.ws
def prS (l : List Sy) : W := l.flatMap fun u => lnW u.ws
def prT (l : List Sl) : W := l.flatMap fun u => lnW u.ws
/-- The text ahead of the last line. -/
def Mp.txt (m : Mp) : W := prU m.us ++ prS m.ss ++ prT m.ts
def Mp.pr (m : Mp) : W := m.txt ++ lnW [wEnd]
/-- A line. -/
inductive Ln where
  | u (x : U)
  | s (x : Sy)
  | t (x : Sl)
  | e
  deriving DecidableEq
def Ln.ws : Ln → List W
  | .u x => x.ws
  | .s x => x.ws
  | .t x => x.ws
  | .e => [wEnd]
def Ln.ok : Ln → Bool
  | .u x => x.ok
  | .s x => x.ok
  | .t x => x.ok
  | .e => true
def Ln.ph : Ln → Nat
  | .u _ => 0
  | .s _ => 1
  | .t _ => 2
  | .e => 3
def Mp.add (m : Mp) : Ln → Mp
  | .u x => ⟨m.us ++ [x], m.ss, m.ts⟩
  | .s x => ⟨m.us, m.ss ++ [x], m.ts⟩
  | .t x => ⟨m.us, m.ss, m.ts ++ [x]⟩
  | .e => m

/-! ### Numbers and names -/
def numOk (c : W) : Bool := decide (vl 10 c ≤ 9007199254740992) && (c == tx 10 (vl 10 c))
def numW (c : W) : Option Int := if numOk c = true then some (vl 10 c : Int) else none
def unW (c : W) : Option Int := if c = [45] then some (-1) else numW c
def nmW (a : W) : Option W := match un a with
  | some n => if n = [] then none else some n
  | none => none
def bdW (c : W) : Option Int := if c = [] then none else (bnames.idxOf? c).map fun n : Nat => (n : Int)
theorem numW_iff {c : W} {z : Int} : numW c = some z ↔ inB z = true ∧ c = nt z := by
  unfold numW numOk
  constructor
  · intro h
    split at h
    · rename_i hk
      cases h
      simp at hk
      refine ⟨by simp [inB]; omega, ?_⟩
      rw [nt, if_neg (by omega)]
      simpa using hk.2
    · cases h
  · rintro ⟨h1, rfl⟩
    simp [inB] at h1
    have hv := vl_tx 10 z.toNat (by omega)
    have e : nt z = tx 10 z.toNat := by rw [nt, if_neg (by omega)]
    rw [e, hv]
    simp
    omega
theorem tx_no (n : Nat) : ∀ c ∈ tx 10 n, 48 ≤ c.toNat ∧ c.toNat ≤ 57 := by
  intro c hc
  have := tx_isd 10 n (by omega) c hc
  simp [isd] at this
  omega
theorem nt_dash {z : Int} (h : inB z = true) : nt z ≠ [45] := by
  simp [inB] at h
  rw [nt, if_neg (by omega)]
  intro e
  have := tx_no z.toNat 45 (by rw [e]; simp)
  simp at this
theorem unW_iff {c : W} {z : Int} : unW c = some z ↔ (inB z = true ∨ z = -1) ∧ c = nt z := by
  unfold unW
  by_cases h : c = [45]
  · rw [if_pos h]
    subst h
    constructor
    · intro h; cases h; exact ⟨.inr rfl, rfl⟩
    · rintro ⟨h1 | h1, h2⟩
      · exact absurd h2.symm (nt_dash h1)
      · rw [h1]
  · rw [if_neg h, numW_iff]
    constructor
    · rintro ⟨h1, h2⟩; exact ⟨.inl h1, h2⟩
    · rintro ⟨h1 | h1, h2⟩
      · exact ⟨h1, h2⟩
      · subst h1; exact absurd h2 h
theorem nmW_iff {a n : W} : nmW a = some n ↔ n ≠ [] ∧ a = esc n := by
  unfold nmW
  constructor
  · intro h
    split at h
    · rename_i o ho
      split at h
      · cases h
      · cases h; exact ⟨by assumption, (un_iff.1 ho).symm⟩
    · cases h
  · rintro ⟨h1, rfl⟩
    rw [un_esc]; simp [h1]
theorem bdW_iff {c : W} {b : Int} : bdW c = some b ↔ (1 ≤ b ∧ b ≤ 5) ∧ c = bnd b := by
  constructor
  · intro h
    unfold bdW at h
    split at h
    · cases h
    · rename_i hne
      rw [Option.map_eq_some_iff] at h
      obtain ⟨n, hn, rfl⟩ := h
      have hl : n < 6 ∧ bnames[n]? = some c := by
        rw [List.idxOf?, List.findIdx?_eq_some_iff_getElem] at hn
        obtain ⟨q1, q2, _⟩ := hn
        exact ⟨q1, by rw [List.getElem?_eq_getElem q1]; simpa using q2⟩
      obtain ⟨h1, h2⟩ := hl
      match n, h1, h2 with
      | 0, _, h2 => exact absurd (Option.some.inj h2).symm hne
      | 1, _, h2 => cases h2; decide
      | 2, _, h2 => cases h2; decide
      | 3, _, h2 => cases h2; decide
      | 4, _, h2 => cases h2; decide
      | 5, _, h2 => cases h2; decide
  · rintro ⟨⟨h1, h2⟩, rfl⟩
    obtain ⟨k, rfl⟩ : ∃ k : Nat, b = k := ⟨b.toNat, by omega⟩
    have : k = 1 ∨ k = 2 ∨ k = 3 ∨ k = 4 ∨ k = 5 := by omega
    rcases this with rfl | rfl | rfl | rfl | rfl <;> rfl
theorem nt_bytes (z : Int) : ∀ c ∈ nt z, 33 ≤ c.toNat ∧ c.toNat ≤ 126 := by
  intro c hc
  unfold nt at hc
  split at hc
  · simp at hc; subst hc; decide
  · have := tx_no _ c hc; omega
theorem bnd_bytes (b : Int) : ∀ c ∈ bnd b, 33 ≤ c.toNat ∧ c.toNat ≤ 126 := by
  have h : ∀ w ∈ bnames, ∀ c ∈ w, 33 ≤ c.toNat ∧ c.toNat ≤ 126 := by decide
  intro c hc
  unfold bnd at hc
  split at hc
  · rename_i hb
    refine h (bnames.getD b.toNat []) ?_ c hc
    have : b.toNat < bnames.length := by simp [bnames]; omega
    simp only [List.getD, List.getElem?_eq_getElem this, Option.getD_some]
    exact List.getElem_mem _
  · simp at hc
/-- Bytes of words. -/
theorem ws_bytes (k : Ln) : ∀ w ∈ k.ws, ∀ c ∈ w, 33 ≤ c.toNat ∧ c.toNat ≤ 126 := by
  have h0 : ∀ w ∈ [wUnit, wSymbol, wSlot, wEnd], ∀ c ∈ w, 33 ≤ c.toNat ∧ c.toNat ≤ 126 := by decide
  intro w hw
  cases k with
  | u x =>
    simp only [Ln.ws, U.ws] at hw
    split at hw
    · simp at hw
      rcases hw with rfl | rfl
      · exact h0 _ (by simp)
      · exact esc_bytes _
    · simp at hw
      rcases hw with rfl | rfl | rfl | rfl
      · exact h0 _ (by simp)
      · exact esc_bytes _
      · exact esc_bytes _
      · exact nt_bytes _
  | s x =>
    simp [Ln.ws, Sy.ws] at hw
    rcases hw with rfl | rfl | rfl | rfl | rfl | rfl
    · exact h0 _ (by simp)
    · exact esc_bytes _
    · exact bnd_bytes _
    · exact nt_bytes _
    · exact nt_bytes _
    · exact nt_bytes _
  | t x =>
    simp [Ln.ws, Sl.ws] at hw
    rcases hw with rfl | rfl | rfl | rfl
    · exact h0 _ (by simp)
    · exact esc_bytes _
    · exact nt_bytes _
    · exact nt_bytes _
  | e =>
    simp [Ln.ws] at hw
    subst hw
    exact h0 _ (by simp)
theorem ws_ne (k : Ln) : k.ws ≠ [] := by
  cases k <;> simp [Ln.ws, U.ws, Sy.ws, Sl.ws]
  split <;> simp
theorem sp_ws (k : Ln) : sp 32 (jn 32 k.ws) = k.ws := sp_jn 32 _ (ws_ne k) fun w hw h => by have := ws_bytes k w hw 32 h; simp at this
theorem jn_mem {c : UInt8} : ∀ {ws : List W} {x : UInt8}, x ∈ jn c ws → x = c ∨ ∃ w ∈ ws, x ∈ w
  | [], x, h => by simp [jn] at h
  | [y], x, h => .inr ⟨y, by simp, h⟩
  | y :: z :: l, x, h => by
    rw [jn_cons c y (by simp)] at h
    rcases List.mem_append.1 h with h | h
    · exact .inr ⟨y, by simp, h⟩
    · rcases List.mem_cons.1 h with h | h
      · exact .inl h
      · rcases jn_mem h with h | ⟨w, hw, h⟩
        · exact .inl h
        · exact .inr ⟨w, by simp at hw ⊢; exact .inr hw, h⟩
theorem ln_no (k : Ln) : (10 : UInt8) ∉ jn 32 k.ws := by
  intro h
  rcases jn_mem h with h | ⟨w, hw, h⟩
  · simp at h
  · have := ws_bytes k w hw 10 h; simp at this

/-! ### One line -/
def unitP : List W → Option U
  | [a] => (nmW a).map fun f => ⟨f, [], 0⟩
  | [a, b, c] => (nmW a).bind fun f => (nmW b).bind fun m => (numW c).map fun i => ⟨f, m, i⟩
  | _ => none
def symP : List W → Option Sy
  | [a, b, c, d, e] => (nmW a).bind fun n => (bdW b).bind fun b => (numW c).bind fun z => (numW d).bind fun a => (unW e).map fun u => ⟨n, b, z, a, u⟩
  | _ => none
def slotP : List W → Option Sl
  | [a, b, c] => (nmW a).bind fun n => (numW b).bind fun o => (numW c).map fun z => ⟨n, o, z⟩
  | _ => none
def wsP : List W → Option Ln
  | [] => none
  | w :: r => if w = wUnit then (unitP r).map .u else if w = wSymbol then (symP r).map .s else if w = wSlot then (slotP r).map .t else if w = wEnd then (if r = [] then some .e else none) else none
def lineP (l : W) : Option Ln := wsP (sp 32 l)
theorem unitP_iff {r : List W} {x : U} : unitP r = some x ↔ x.ok = true ∧ wUnit :: r = x.ws := by
  constructor
  · intro h
    unfold unitP at h
    split at h
    · rename_i a
      rw [Option.map_eq_some_iff] at h
      obtain ⟨f, h1, rfl⟩ := h
      obtain ⟨h2, rfl⟩ := nmW_iff.1 h1
      exact ⟨by simp [U.ok, h2, inB], by simp [U.ws]⟩
    · rename_i a b c
      simp only [Option.bind_eq_some_iff, Option.map_eq_some_iff] at h
      obtain ⟨f, h1, m, h2, i, h3, rfl⟩ := h
      obtain ⟨k1, rfl⟩ := nmW_iff.1 h1
      obtain ⟨k2, rfl⟩ := nmW_iff.1 h2
      obtain ⟨k3, rfl⟩ := numW_iff.1 h3
      exact ⟨by simp [U.ok, k1, k2, k3], by simp [U.ws, k2]⟩
    · cases h
  · rintro ⟨h1, h2⟩
    simp [U.ok] at h1
    obtain ⟨⟨h3, h4⟩, h5⟩ := h1
    unfold U.ws at h2
    split at h2
    · rename_i hm
      cases h2
      have : nmW (esc x.f) = some x.f := nmW_iff.2 ⟨h3, rfl⟩
      simp [unitP, this]
      have hi : x.i = 0 := by
        rcases h5 with h5 | h5
        · exact absurd hm h5
        · exact h5
      cases x; simp_all
    · rename_i hm
      cases h2
      have e1 : nmW (esc x.f) = some x.f := nmW_iff.2 ⟨h3, rfl⟩
      have e2 : nmW (esc x.m) = some x.m := nmW_iff.2 ⟨hm, rfl⟩
      have e3 : numW (nt x.i) = some x.i := numW_iff.2 ⟨h4, rfl⟩
      simp [unitP, e1, e2, e3]
theorem symP_iff {r : List W} {x : Sy} : symP r = some x ↔ x.ok = true ∧ wSymbol :: r = x.ws := by
  constructor
  · intro h
    unfold symP at h
    split at h
    · simp only [Option.bind_eq_some_iff, Option.map_eq_some_iff] at h
      obtain ⟨f, h1, m, h2, i, h3, j, h4, k, h5, rfl⟩ := h
      obtain ⟨k1, rfl⟩ := nmW_iff.1 h1
      obtain ⟨k2, rfl⟩ := bdW_iff.1 h2
      obtain ⟨k3, rfl⟩ := numW_iff.1 h3
      obtain ⟨k4, rfl⟩ := numW_iff.1 h4
      obtain ⟨k5, rfl⟩ := unW_iff.1 h5
      exact ⟨by simp [Sy.ok, k1, k2, k3, k4]; exact k5, rfl⟩
    · cases h
  · rintro ⟨h1, h2⟩
    simp only [Sy.ok, Bool.and_eq_true, Bool.or_eq_true, decide_eq_true_eq] at h1
    obtain ⟨⟨⟨⟨h3, h4⟩, h5⟩, h6⟩, h7⟩ := h1
    cases h2
    have e1 : nmW (esc x.n) = some x.n := nmW_iff.2 ⟨h3, rfl⟩
    have e2 : bdW (bnd x.b) = some x.b := bdW_iff.2 ⟨h4, rfl⟩
    have e3 : numW (nt x.z) = some x.z := numW_iff.2 ⟨h5, rfl⟩
    have e4 : numW (nt x.a) = some x.a := numW_iff.2 ⟨h6, rfl⟩
    have e5 : unW (nt x.u) = some x.u := unW_iff.2 ⟨h7, rfl⟩
    simp [symP, e1, e2, e3, e4, e5]
theorem slotP_iff {r : List W} {x : Sl} : slotP r = some x ↔ x.ok = true ∧ wSlot :: r = x.ws := by
  constructor
  · intro h
    unfold slotP at h
    split at h
    · simp only [Option.bind_eq_some_iff, Option.map_eq_some_iff] at h
      obtain ⟨f, h1, i, h3, j, h4, rfl⟩ := h
      obtain ⟨k1, rfl⟩ := nmW_iff.1 h1
      obtain ⟨k3, rfl⟩ := numW_iff.1 h3
      obtain ⟨k4, rfl⟩ := numW_iff.1 h4
      exact ⟨by simp [Sl.ok, k1, k3, k4], rfl⟩
    · cases h
  · rintro ⟨h1, h2⟩
    simp only [Sl.ok, Bool.and_eq_true, decide_eq_true_eq] at h1
    obtain ⟨⟨h3, h4⟩, h5⟩ := h1
    cases h2
    have e1 : nmW (esc x.n) = some x.n := nmW_iff.2 ⟨h3, rfl⟩
    have e3 : numW (nt x.o) = some x.o := numW_iff.2 ⟨h4, rfl⟩
    have e4 : numW (nt x.z) = some x.z := numW_iff.2 ⟨h5, rfl⟩
    simp [slotP, e1, e3, e4]
theorem wsP_iff {ws : List W} {k : Ln} : wsP ws = some k ↔ k.ok = true ∧ ws = k.ws := by
  have n1 : wSymbol ≠ wUnit := by decide
  have n2 : wSlot ≠ wUnit := by decide
  have n3 : wSlot ≠ wSymbol := by decide
  have n4 : wEnd ≠ wUnit := by decide
  have n5 : wEnd ≠ wSymbol := by decide
  have n6 : wEnd ≠ wSlot := by decide
  constructor
  · intro h
    cases ws with
    | nil => cases h
    | cons w r =>
      simp only [wsP] at h
      split at h
      · rename_i hw; subst hw
        rw [Option.map_eq_some_iff] at h
        obtain ⟨x, h1, rfl⟩ := h
        exact unitP_iff.1 h1
      · split at h
        · rename_i hw; subst hw
          rw [Option.map_eq_some_iff] at h
          obtain ⟨x, h1, rfl⟩ := h
          exact symP_iff.1 h1
        · split at h
          · rename_i hw; subst hw
            rw [Option.map_eq_some_iff] at h
            obtain ⟨x, h1, rfl⟩ := h
            exact slotP_iff.1 h1
          · split at h
            · rename_i hw; subst hw
              split at h
              · rename_i hr; subst hr; cases h; exact ⟨rfl, rfl⟩
              · cases h
            · cases h
  · rintro ⟨h1, rfl⟩
    cases k with
    | u x =>
      obtain ⟨r, hr⟩ : ∃ r, x.ws = wUnit :: r := by unfold U.ws; split <;> exact ⟨_, rfl⟩
      have := unitP_iff.2 ⟨h1, hr.symm⟩
      simp [Ln.ws, hr, wsP, this]
    | s x =>
      have := symP_iff.2 ⟨h1, (rfl : wSymbol :: _ = x.ws)⟩
      simp [Ln.ws, Sy.ws, wsP, this, n1]
    | t x =>
      have := slotP_iff.2 ⟨h1, (rfl : wSlot :: _ = x.ws)⟩
      simp [Ln.ws, Sl.ws, wsP, this, n2, n3]
    | e => simp [Ln.ws, wsP, n4, n5, n6]
/-- A line is accepted just if it is the text of a line that is right. -/
theorem lineP_iff {l : W} {k : Ln} : lineP l = some k ↔ k.ok = true ∧ l = jn 32 k.ws := by
  unfold lineP
  rw [wsP_iff]
  constructor
  · rintro ⟨h1, h2⟩; exact ⟨h1, by rw [← h2, jn_sp]⟩
  · rintro ⟨h1, rfl⟩; exact ⟨h1, sp_ws k⟩
theorem Ln.inj {k k' : Ln} (h : k.ok = true) (h' : k'.ok = true) (e : jn 32 k.ws = jn 32 k'.ws) : k = k' := by
  have h1 := lineP_iff.2 ⟨h, rfl⟩
  have h2 := lineP_iff.2 ⟨h', rfl⟩
  rw [e, h2] at h1
  exact (Option.some.inj h1).symm

/-! ### All lines -/
/-- The walk over the pieces between line ends: the map, the number of the line, is it right? -/
def goP : List W → Nat → Mp → Nat → Mp × Nat × Bool
  | [], i, m, ph => (Mp.e, i, false)
  | [l], i, m, ph => if ph = 3 ∧ l = [] then (m, 0, true) else (Mp.e, i + 1, false)
  | l :: l' :: r, i, m, ph => if ph = 3 then (Mp.e, i + 1, false) else match lineP l with
    | none => (Mp.e, i + 1, false)
    | some k => if k.ph < ph then (Mp.e, i + 1, false) else goP (l' :: r) (i + 1) (m.add k) k.ph
def parseP (s : W) : Mp × Nat × Bool := goP (sp 10 s) 0 Mp.e 0
/-- No line of a later kind yet. -/
def Mp.upto (m : Mp) (ph : Nat) : Prop := (ph < 2 → m.ts = []) ∧ (ph < 1 → m.ss = [])
theorem txt_add {m : Mp} {k : Ln} (h : m.upto k.ph) (hk : k ≠ .e) : (m.add k).txt = m.txt ++ lnW k.ws ∧ (m.add k).upto k.ph := by
  cases k with
  | u x =>
    have h1 := h.1 (by simp [Ln.ph])
    have h2 := h.2 (by simp [Ln.ph])
    exact ⟨by simp [Mp.txt, Mp.add, h1, h2, prU, prS, prT, Ln.ws], by simp [Mp.upto, Mp.add, h1, h2]⟩
  | s x =>
    have h1 := h.1 (by simp [Ln.ph])
    exact ⟨by simp [Mp.txt, Mp.add, h1, prU, prS, prT, Ln.ws], by simp [Mp.upto, Mp.add, h1, Ln.ph]⟩
  | t x => exact ⟨by simp [Mp.txt, Mp.add, prU, prS, prT, Ln.ws], by simp [Mp.upto, Ln.ph]⟩
  | e => exact absurd rfl hk
theorem upto_mono {m : Mp} {p q : Nat} (h : m.upto p) (hpq : p ≤ q) : m.upto q := ⟨fun h' => h.1 (by omega), fun h' => h.2 (by omega)⟩
theorem add_ok {m : Mp} {k : Ln} (h : m.ok = true) (hk : k.ok = true) : (m.add k).ok = true := by
  cases k <;> simp_all [Mp.ok, Mp.add, Ln.ok]
/-- What is accepted is the text of the result. -/
theorem goP_ok : ∀ (segs : List W) (i : Nat) (m : Mp) (ph : Nat) (T : W) (m' : Mp) (n : Nat), segs ≠ [] → m.upto ph → m.ok = true → ph ≤ 3 → (if ph = 3 then T = m.txt ++ lnW [wEnd] else T = m.txt) → goP segs i m ph = (m', n, true) →
    n = 0 ∧ T ++ jn 10 segs = m'.pr ∧ m'.ok = true
  | [], _, _, _, _, _, _, h, _, _, _, _, _ => absurd rfl h
  | [l], i, m, ph, T, m', n, _, hu, ho, hp, hT, h => by
    unfold goP at h
    split at h
    · rename_i hc
      simp only [Prod.mk.injEq, and_true] at h
      obtain ⟨rfl, rfl⟩ := h
      rw [if_pos hc.1] at hT
      exact ⟨rfl, by rw [hc.2, hT]; simp [jn, Mp.pr], ho⟩
    · simp at h
  | l :: l' :: r, i, m, ph, T, m', n, _, hu, ho, hp, hT, h => by
    unfold goP at h
    split at h
    · simp at h
    · rename_i hph
      rw [if_neg hph] at hT
      split at h
      · simp at h
      · rename_i k hk
        split at h
        · simp at h
        · rename_i hge
          obtain ⟨k1, k2⟩ := lineP_iff.1 hk
          have hu' := upto_mono hu (Nat.le_of_not_lt hge)
          have := goP_ok (l' :: r) (i + 1) (m.add k) k.ph (T ++ lnW k.ws) m' n (by simp) (by
            by_cases hke : k = .e
            · subst hke; exact hu'
            · exact (txt_add hu' hke).2) (add_ok ho k1) (by cases k <;> simp [Ln.ph]) (by
            by_cases hke : k = .e
            · subst hke; simp [Ln.ph, Mp.add, Ln.ws, hT]
            · rw [if_neg (by cases k <;> simp_all [Ln.ph]), (txt_add hu' hke).1, hT]) h
          obtain ⟨q1, q2, q3⟩ := this
          refine ⟨q1, ?_, q3⟩
          rw [← q2, jn_cons 10 l (by simp), k2]
          simp [lnW]
theorem parseP_ok {s : W} {m : Mp} {n : Nat} (h : parseP s = (m, n, true)) : n = 0 ∧ s = m.pr ∧ m.ok = true := by
  obtain ⟨h1, h2, h3⟩ := goP_ok (sp 10 s) 0 Mp.e 0 [] m n (spA_ne 10 [] s) (by simp [Mp.upto, Mp.e]) rfl (by omega) (by simp [Mp.txt, Mp.e, prU, prS, prT]) h
  rw [jn_sp] at h2
  exact ⟨h1, by simpa using h2, h3⟩
theorem goP_bad : ∀ (segs : List W) (i : Nat) (m : Mp) (ph : Nat) (m' : Mp) (n : Nat), segs ≠ [] → goP segs i m ph = (m', n, false) → m' = Mp.e ∧ i + 1 ≤ n ∧ n ≤ i + segs.length
  | [], _, _, _, _, _, h, _ => absurd rfl h
  | [l], i, m, ph, m', n, _, h => by
    unfold goP at h
    split at h
    · simp at h
    · simp at h; obtain ⟨rfl, rfl⟩ := h; exact ⟨rfl, by omega, by simp⟩
  | l :: l' :: r, i, m, ph, m', n, _, h => by
    unfold goP at h
    split at h
    · simp at h; obtain ⟨rfl, rfl⟩ := h; exact ⟨rfl, by omega, by simp⟩
    · split at h
      · simp at h; obtain ⟨rfl, rfl⟩ := h; exact ⟨rfl, by omega, by simp⟩
      · split at h
        · simp at h; obtain ⟨rfl, rfl⟩ := h; exact ⟨rfl, by omega, by simp⟩
        · obtain ⟨h1, h2, h3⟩ := goP_bad (l' :: r) (i + 1) _ _ m' n (by simp) h
          simp at h3 ⊢
          exact ⟨h1, by omega, by omega⟩
theorem goP_n : ∀ (segs : List W) (i : Nat) (m : Mp) (ph : Nat), (goP segs i m ph).2.1 ≤ i + segs.length
  | [], i, m, ph => by simp [goP]
  | [l], i, m, ph => by
    unfold goP
    split <;> simp
  | l :: l' :: r, i, m, ph => by
    have ih := fun m ph => goP_n (l' :: r) (i + 1) m ph
    unfold goP
    split
    · simp
    · split
      · simp
      · split
        · simp
        · have := ih (m.add ‹Ln›) (‹Ln›.ph)
          simp at this ⊢
          omega
/-- The lines of a map. -/
def Mp.lns (m : Mp) : List Ln := m.us.map .u ++ (m.ss.map .s ++ m.ts.map .t)
def Mp.addL (m : Mp) (l : List Ln) : Mp := l.foldl Mp.add m
/-- Lines that are right and of no earlier kind are taken one by one. -/
theorem goP_lines : ∀ (l : List Ln) (tl : List W) (i : Nat) (m : Mp) (ph : Nat), tl ≠ [] → (∀ k ∈ l, k.ok = true ∧ k ≠ .e) → (l.map Ln.ph).Pairwise (· ≤ ·) → (∀ k ∈ l, ph ≤ k.ph) → ph < 3 →
    ∃ ph', ph' < 3 ∧ goP (l.map (fun k => jn 32 k.ws) ++ tl) i m ph = goP tl (i + l.length) (m.addL l) ph'
  | [], tl, i, m, ph, _, _, _, _, hp => ⟨ph, hp, by simp [Mp.addL]⟩
  | k :: l, tl, i, m, ph, ht, hok, hs, hph, hp => by
    obtain ⟨k1, k2⟩ := hok k (by simp)
    have hkp : k.ph < 3 := by cases k <;> simp_all [Ln.ph]
    simp only [List.map_cons, List.pairwise_cons] at hs
    obtain ⟨ph', q1, q2⟩ := goP_lines l tl (i + 1) (m.add k) k.ph ht (fun k' hk' => hok k' (by simp [hk'])) hs.2 (fun k' hk' => hs.1 _ (by simp; exact ⟨k', hk', rfl⟩)) hkp
    refine ⟨ph', q1, ?_⟩
    have hne : l.map (fun k => jn 32 k.ws) ++ tl ≠ [] := by simp [ht]
    obtain ⟨y, r, hy⟩ := List.exists_cons_of_ne_nil hne
    rw [List.map_cons, List.cons_append, hy, goP, if_neg (by omega), (lineP_iff.2 ⟨k1, rfl⟩ : lineP (jn 32 k.ws) = some k)]
    simp only
    rw [if_neg (by have := hph k (by simp); omega), ← hy, q2]
    simp [Mp.addL, Nat.add_assoc, Nat.add_comm 1]
theorem addL_append (m : Mp) (a b : List Ln) : m.addL (a ++ b) = (m.addL a).addL b := by simp [Mp.addL]
theorem addL_u (l : List U) : ∀ m : Mp, m.addL (l.map .u) = ⟨m.us ++ l, m.ss, m.ts⟩ := by
  induction l with
  | nil => intro m; simp [Mp.addL]
  | cons x l ih => intro m; have := ih (m.add (.u x)); simp [Mp.addL, Mp.add] at this ⊢; exact this
theorem addL_s (l : List Sy) : ∀ m : Mp, m.addL (l.map .s) = ⟨m.us, m.ss ++ l, m.ts⟩ := by
  induction l with
  | nil => intro m; simp [Mp.addL]
  | cons x l ih => intro m; have := ih (m.add (.s x)); simp [Mp.addL, Mp.add] at this ⊢; exact this
theorem addL_t (l : List Sl) : ∀ m : Mp, m.addL (l.map .t) = ⟨m.us, m.ss, m.ts ++ l⟩ := by
  induction l with
  | nil => intro m; simp [Mp.addL]
  | cons x l ih => intro m; have := ih (m.add (.t x)); simp [Mp.addL, Mp.add] at this ⊢; exact this
theorem addL_lns (m : Mp) : Mp.e.addL m.lns = m := by
  rw [Mp.lns, addL_append, addL_append, addL_u, addL_s, addL_t]
  simp [Mp.e]
theorem lns_txt (m : Mp) : m.txt = m.lns.flatMap fun k => lnW k.ws := by
  simp [Mp.txt, Mp.lns, prU, prS, prT, List.flatMap_append, List.flatMap_map, Ln.ws]
theorem lns_ok {m : Mp} (h : m.ok = true) : ∀ k ∈ m.lns, k.ok = true ∧ k ≠ .e := by
  simp [Mp.ok] at h
  obtain ⟨⟨h1, h2⟩, h3⟩ := h
  intro k hk
  simp [Mp.lns] at hk
  rcases hk with ⟨x, hx, rfl⟩ | ⟨x, hx, rfl⟩ | ⟨x, hx, rfl⟩
  · exact ⟨h1 x hx, by simp⟩
  · exact ⟨h2 x hx, by simp⟩
  · exact ⟨h3 x hx, by simp⟩
theorem lns_sorted (m : Mp) : (m.lns.map Ln.ph).Pairwise (· ≤ ·) := by
  have rep : ∀ {α : Type} (l : List α) (f : α → Nat) (c : Nat), (∀ x, f x = c) → (l.map f).Pairwise (· ≤ ·) := by
    intro α l f c h
    induction l with
    | nil => simp
    | cons x l ih =>
      simp only [List.map_cons, List.pairwise_cons, ih, and_true]
      intro y hy
      simp at hy
      obtain ⟨z, _, rfl⟩ := hy
      rw [h, h]; exact Nat.le_refl _
  simp only [Mp.lns, List.map_append, List.map_map, List.pairwise_append]
  refine ⟨rep _ _ 0 (fun _ => rfl), ⟨rep _ _ 1 (fun _ => rfl), rep _ _ 2 (fun _ => rfl), ?_⟩, ?_⟩
  · intro a ha b hb
    simp [Ln.ph] at ha hb
    omega
  · intro a ha b hb
    simp [Ln.ph] at ha hb
    omega
theorem sp_lines : ∀ (l : List Ln) (r : W), sp 10 ((l.flatMap fun k => lnW k.ws) ++ r) = l.map (fun k => jn 32 k.ws) ++ sp 10 r
  | [], r => by simp
  | k :: l, r => by
    have ih := sp_lines l r
    rw [List.flatMap_cons, List.append_assoc, lnW, List.append_assoc, List.singleton_append, sp_cons 10 _ _ (ln_no k), ih]
    rfl
theorem lns_len (m : Mp) : m.lns.length = m.us.length + m.ss.length + m.ts.length := by simp [Mp.lns]; omega
/-- The text of a map is parsed to the map. -/
theorem parseP_pr {m : Mp} (h : m.ok = true) : parseP m.pr = (m, 0, true) := by
  have he : sp 10 (lnW [wEnd]) = [wEnd, []] := by decide
  rw [parseP, Mp.pr, lns_txt, sp_lines, he]
  obtain ⟨ph', h1, h2⟩ := goP_lines m.lns [wEnd, []] 0 Mp.e 0 (by simp) (lns_ok h) (lns_sorted m) (fun _ _ => Nat.zero_le _) (by omega)
  rw [h2, addL_lns, goP, if_neg (by omega), (lineP_iff.2 ⟨rfl, rfl⟩ : lineP wEnd = some .e)]
  simp only
  rw [if_neg (by simp [Ln.ph]; omega)]
  simp [goP, Ln.ph, Mp.add]
/-- Without its last byte it is not accepted; the line that is named is the last one. -/
theorem parseP_cut {m : Mp} (h : m.ok = true) : parseP (m.txt ++ wEnd) = (Mp.e, m.lns.length + 1, false) := by
  have he : sp 10 wEnd = [wEnd] := by decide
  rw [parseP, lns_txt, sp_lines, he]
  obtain ⟨ph', h1, h2⟩ := goP_lines m.lns [wEnd] 0 Mp.e 0 (by simp) (lns_ok h) (lns_sorted m) (fun _ _ => Nat.zero_le _) (by omega)
  rw [h2, goP, if_neg (by omega)]
  simp
theorem pr_count {m : Mp} : m.pr.count 10 = m.us.length + m.ss.length + m.ts.length + 1 := by
  have h : (sp 10 m.pr).length = m.lns.length + 2 := by
    have he : sp 10 (lnW [wEnd]) = [wEnd, []] := by decide
    rw [Mp.pr, lns_txt, sp_lines, he]; simp
  rw [sp_count, lns_len] at h
  omega
end Go.Proofs.YtebjdgcnnonjoaaDoor
