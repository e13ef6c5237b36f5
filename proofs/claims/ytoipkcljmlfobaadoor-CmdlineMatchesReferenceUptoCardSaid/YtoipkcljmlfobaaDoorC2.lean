/- The parser of command lines: what its two states do with a word. No condition. -/
import Derived.Test.YtoipkcljmlfobaaDoorC1
import Derived.Test.YtoipkcljmlfobaaDoorAw18
set_option linter.unusedVariables false
set_option linter.unusedSimpArgs false
namespace Go.Proofs.YtoipkcljmlfobaaDoor
open Go Go.AW
set_option maxRecDepth 100000
set_option maxHeartbeats 8000000

abbrev Item := Bool × List W × List Int
abbrev St := Option (Int × List W × List Int)

/-- A row of the store; where it lies is between two bounds. -/
def Row (lo hi : Nat) (σ : Store) (T : TypeId) (x : AV) (l : List AV) : Prop :=
  (x = .nl ∧ l = []) ∨ ∃ j g, x = .rs j g 0 l.length ∧ lo ≤ j ∧ j < hi ∧ σ.get j = some (.arr T g l)

theorem Row.mono {lo hi hi' : Nat} {σ σ' : Store} {T : TypeId} {x : AV} {l : List AV} (h : Row lo hi σ T x l) (hh : hi ≤ hi') (hs : ∀ j, lo ≤ j → j < hi → σ'.get j = σ.get j) : Row lo hi' σ' T x l := by
  rcases h with h | ⟨j, g, h1, h2, h3, h4⟩
  · exact .inl h
  · exact .inr ⟨j, g, h1, h2, by omega, by rw [hs j h2 h3]; exact h4⟩

def ItemOk (lo hi : Nat) (σ : Store) (e : AV) (it : Item) : Prop :=
  ∃ fx ax, e = .agg [.c (.bool it.1), fx, ax] ∧ Row lo hi σ 9 fx (it.2.1.map str) ∧ (Row lo hi σ 3 ax (it.2.2.map intV) ∨ ax = ints it.2.2)

def ItemsOk (lo hi : Nat) (σ : Store) : List AV → List Item → Prop
  | [], [] => True
  | e :: es, it :: its => ItemOk lo hi σ e it ∧ ItemsOk lo hi σ es its
  | _, _ => False

theorem ItemOk.mono {lo hi hi' : Nat} {σ σ' : Store} {e : AV} {it : Item} (h : ItemOk lo hi σ e it) (hh : hi ≤ hi') (hs : ∀ j, lo ≤ j → j < hi → σ'.get j = σ.get j) : ItemOk lo hi' σ' e it := by
  obtain ⟨fx, ax, h1, h2, h3⟩ := h
  exact ⟨fx, ax, h1, h2.mono hh hs, h3.imp (fun h => h.mono hh hs) id⟩

theorem ItemsOk.mono {lo hi hi' : Nat} {σ σ' : Store} (hh : hi ≤ hi') (hs : ∀ j, lo ≤ j → j < hi → σ'.get j = σ.get j) : ∀ {es : List AV} {its : List Item}, ItemsOk lo hi σ es its → ItemsOk lo hi' σ' es its
  | [], [], _ => trivial
  | _ :: _, _ :: _, h => ⟨h.1.mono hh hs, ItemsOk.mono hh hs h.2⟩

theorem ItemsOk.length {lo hi : Nat} {σ : Store} : ∀ {es : List AV} {its : List Item}, ItemsOk lo hi σ es its → es.length = its.length
  | [], [], _ => rfl
  | _ :: _, _ :: _, h => by simp [ItemsOk.length h.2]

theorem ItemsOk.snoc {lo hi : Nat} {σ : Store} {e : AV} {it : Item} (he : ItemOk lo hi σ e it) : ∀ {es : List AV} {its : List Item}, ItemsOk lo hi σ es its → ItemsOk lo hi σ (es ++ [e]) (its ++ [it])
  | [], [], _ => ⟨he, trivial⟩
  | _ :: _, _ :: _, h => ⟨h.1, ItemsOk.snoc he h.2⟩

/-- The open group's files and indices. -/
def Open (lo : Nat) (σ : Store) (fx ax : AV) (fs : List W) (ns : List Int) : Prop :=
  (fs = [] ∧ ns = [] ∧ fx = .nl ∧ ax = .nl) ∨ ∃ jf gf ja ga, fx = .rs jf gf 0 fs.length ∧ ax = .rs ja ga 0 ns.length ∧ lo ≤ jf ∧ lo ≤ ja ∧ jf ≠ ja ∧ jf < σ.next ∧ ja < σ.next ∧ σ.get jf = some (.arr 9 gf (fs.map str)) ∧ σ.get ja = some (.arr 3 ga (ns.map intV))

/-- The parser's object is n, that of its items n + 1. -/
structure PSt (n : Nat) (σ : Store) (out : List Item) (st : St) : Prop where
  room : n + 2 ≤ σ.next
  rest : ∃ L go es fn fv, n + 2 ≤ L ∧ L ≤ σ.next ∧ σ.get n = some (.arr 46 0 [.agg [fn, .rs (n + 1) go 0 es.length, .c (.int .i64 fv)]]) ∧ σ.get (n + 1) = some (.arr 36 go es) ∧
    match st with
    | none => fn = .fn (.func 18) [.rp n 0 0 0] [] ∧ fv = -1 ∧ ItemsOk (n + 2) L σ es out
    | some (fr, fs, ns) => fn = .fn (.func 22) [.rp n 0 0 0] [] ∧ fv = fr ∧ ∃ es0 fx ax, es = es0 ++ [.agg [.c (.bool true), fx, ax]] ∧ ItemsOk (n + 2) L σ es0 out ∧ Open L σ fx ax fs ns

def pstep (out : List Item) (st : St) (w : W) (i : Int) : Int × List Item × St :=
  match st with
  | none => if isB w then (0, out, some (i, [], [])) else if isE w then (14, out, none) else (0, out ++ [(false, [w], [i])], none)
  | some (fr, fs, ns) => if isB w then (14, out, st) else if isE w then (0, out ++ [(true, fs, ns)], none) else (0, out, some (fr, fs ++ [w], ns ++ [i]))

theorem contB (w : W) : [bW1, bW2].contains w = isB w := by rw [Bool.eq_iff_iff]; simp [isB]
theorem contE (w : W) : [eW1, eW2].contains w = isE w := by rw [Bool.eq_iff_iff]; simp [isE]

theorem outside_c (n : Nat) (out : List Item) (w : W) (i : Int) (hlen : out.length ≤ 1000000) (σ : Store) (hst : PSt n σ out none) : ACalls E 18 [.rp n 0 0 0, str w, .c (.int .i64 i)] σ fun r σ' =>
    r = .c (.int .i64 (pstep out none w i).1) ∧ PSt n σ' (pstep out none w i).2.1 (pstep out none w i).2.2 ∧ ∀ j, j < n → σ'.get j = σ.get j := by
  obtain ⟨hn, L, go, es, fn, fv, hL1, hL2, hP, hO, rfl, rfl, hits⟩ := hst
  have hel := hits.length
  have hn1 : ¬ n = σ.next := by omega
  have hn2 : ¬ n + 1 = σ.next := by omega
  have hn3 : ¬ n = σ.next + 1 := by omega
  have hn4 : ¬ n + 1 = σ.next + 1 := by omega
  have hb1 : (es.length + 1) * tby Tryd.prog 36 ≤ 140737488355328 := by simp; omega
  have hb2 : es.length + 1 ≤ maxLen := by simp [maxLen]; omega
  refine ACalls.enter Tryd.func18 rfl Tryd.ntmps18 Tryd.results18 (by simp) fun hσ => ?_
  refine AW.stepL [] [0, 1, 2] fun K hK => ?_
  simp
  refine hK _ _ ?_; clear hK
  refine AW.seqL [] fun K1 hK1 => ?_
  refine AW.block ?_
  refine AW.stepL [] [0, 1, 2, 21] fun K hK => ?_
  simp
  refine (Contains_c [bW1, bW2] w (by simp) σ).mono ?_
  rintro r σ' ⟨rfl, rfl⟩
  simp only [contB]
  simp
  refine hK _ _ ?_; clear hK
  refine AW.cond (hb := by simp; rfl) (fun hb => ?_) (fun hb => ?_)
  · refine AW.stepL [] [0, 2] fun K hK => ?_
    simp [hP, hO, hn1, hn2]
    refine ⟨by omega, by simp [maxLen]; omega, ?_⟩
    refine hK _ _ ?_; clear hK
    refine AW.region (ow := []) ?_
    simp
    refine hK1 _ _ ?_; clear hK1
    refine AW.stepL [] [6] fun K hK => ?_
    simp
    refine hK _ _ ?_; clear hK
    refine AW.ret ?_
    simp
    have e : pstep out none w i = (0, out, some (i, [], [])) := by simp [pstep, hb]
    rw [e]
    refine Fin.same (by simp) ⟨rfl, ⟨by simpa using hn, L, go + 1, es ++ [.agg [.c (.bool true), .nl, .nl]], .fn (.func 22) [.rp n 0 0 0] [], i, hL1, by simpa using hL2, by simp, by simp, rfl, rfl, es, .nl, .nl, rfl, ?_, .inl ⟨rfl, rfl, rfl, rfl⟩⟩, fun j hj => ?_⟩
    · exact hits.mono (Nat.le_refl _) fun j h1 h2 => by simp [show j ≠ n by omega, show j ≠ n + 1 by omega]
    · simp [show j ≠ n by omega, show j ≠ n + 1 by omega]
  · refine AW.stepL [] [0, 1, 2, 44] fun K hK => ?_
    simp
    refine (Contains_c [eW1, eW2] w (by simp) σ').mono ?_
    rintro r σ ⟨rfl, rfl⟩
    simp only [contE]
    simp
    refine hK _ _ ?_; clear hK
    refine AW.cond (hb := by simp; rfl) (fun hb' => ?_) (fun hb' => ?_)
    · refine AW.stepL [] [6] fun K hK => ?_
      simp
      refine hK _ _ ?_; clear hK
      refine AW.ret ?_
      simp
      have e : pstep out none w i = (14, out, none) := by simp [pstep, hb, hb']
      rw [e]
      exact Fin.same (Nat.le_refl _) ⟨rfl, ⟨hn, L, go, es, _, _, hL1, hL2, hP, hO, rfl, rfl, hits⟩, fun _ _ => rfl⟩
    · refine AW.region (ow := [13]) ?_
      simp [hP, hO, hn1, hn2]
      refine ⟨by omega, by simp [maxLen]; omega, ?_⟩
      refine hK1 _ _ ?_; clear hK1
      refine AW.stepL [] [6] fun K hK => ?_
      simp
      refine hK _ _ ?_; clear hK
      refine AW.ret ?_
      simp
      have e : pstep out none w i = (0, out ++ [(false, [w], [i])], none) := by simp [pstep, hb, hb']
      rw [e]
      refine Fin.same (by simp) ⟨rfl, ⟨by simp; omega, σ.next + 1, go + 1, es ++ [.agg [.c (.bool false), .rs σ.next 0 0 1, ints [i]]], .fn (.func 18) [.rp n 0 0 0] [], -1, by omega, by simp, by simp, by simp, rfl, rfl, ?_⟩, fun j hj => ?_⟩
      · refine ItemsOk.snoc (it := (false, [w], [i])) ⟨.rs σ.next 0 0 1, ints [i], rfl, .inr ⟨σ.next, 0, by simp, by omega, by omega, by simp [show σ.next ≠ n by omega, show σ.next ≠ n + 1 by omega]⟩, .inr rfl⟩ (hits.mono (by omega) fun j h1 h2 => ?_)
        simp [show j ≠ n by omega, show j ≠ n + 1 by omega, show j ≠ σ.next by omega]
      · simp [show j ≠ n by omega, show j ≠ n + 1 by omega, show j ≠ σ.next by omega]

theorem inside_c (n : Nat) (out : List Item) (fr' : Int) (fs : List W) (ns : List Int) (w : W) (i : Int) (hlen : out.length ≤ 1000000) (hfs : fs.length ≤ 1000000) (hns : ns.length ≤ 1000000) (σ : Store) (hst : PSt n σ out (some (fr', fs, ns))) :
    ACalls E 22 [.rp n 0 0 0, str w, .c (.int .i64 i)] σ fun r σ' =>
    r = .c (.int .i64 (pstep out (some (fr', fs, ns)) w i).1) ∧ PSt n σ' (pstep out (some (fr', fs, ns)) w i).2.1 (pstep out (some (fr', fs, ns)) w i).2.2 ∧ ∀ j, j < n → σ'.get j = σ.get j := by
  obtain ⟨hn, L, go, es, fn, fv, hL1, hL2, hP, hO, rfl, rfl, es0, fx, ax, rfl, hits, hop⟩ := hst
  have hel := hits.length
  have hn1 : ¬ n = σ.next := by omega
  have hn2 : ¬ n + 1 = σ.next := by omega
  have hn3 : ¬ n = σ.next + 1 := by omega
  have hn4 : ¬ n + 1 = σ.next + 1 := by omega
  refine ACalls.enter Tryd.func22 rfl Tryd.ntmps22 Tryd.results22 (by simp) fun hσ => ?_
  refine AW.stepL [] [0, 1, 2] fun K hK => ?_
  simp
  refine hK _ _ ?_; clear hK
  refine AW.seqL [] fun K1 hK1 => ?_
  refine AW.block ?_
  refine AW.stepL [] [0, 1, 2, 39] fun K hK => ?_
  simp
  refine (Contains_c [bW1, bW2] w (by simp) σ).mono ?_
  rintro r σ' ⟨rfl, rfl⟩
  simp only [contB]
  simp
  refine hK _ _ ?_; clear hK
  refine AW.cond (hb := by simp; rfl) (fun hb => ?_) (fun hb => ?_)
  · refine AW.stepL [] [6] fun K hK => ?_
    simp
    refine hK _ _ ?_; clear hK
    refine AW.ret ?_
    simp
    have e : pstep out (some (fv, fs, ns)) w i = (14, out, some (fv, fs, ns)) := by simp [pstep, hb]
    rw [e]
    exact Fin.same (Nat.le_refl _) ⟨rfl, ⟨hn, L, go, _, _, _, hL1, hL2, hP, hO, rfl, rfl, es0, fx, ax, rfl, hits, hop⟩, fun _ _ => rfl⟩
  · refine AW.stepL [] [0, 1, 2, 43] fun K hK => ?_
    simp
    refine (Contains_c [eW1, eW2] w (by simp) σ').mono ?_
    rintro r σ ⟨rfl, rfl⟩
    simp only [contE]
    simp
    refine hK _ _ ?_; clear hK
    refine AW.cond (hb := by simp; rfl) (fun hb' => ?_) (fun hb' => ?_)
    · refine AW.region (ow := []) ?_
      simp [hP, hO, hn1, hn2]
      refine hK1 _ _ ?_; clear hK1
      refine AW.stepL [] [6] fun K hK => ?_
      simp
      refine hK _ _ ?_; clear hK
      refine AW.ret ?_
      simp
      have e : pstep out (some (fv, fs, ns)) w i = (0, out ++ [(true, fs, ns)], none) := by simp [pstep, hb, hb']
      rw [e]
      have hsame : ∀ j, n + 2 ≤ j → j < σ.next → (σ.set n (.arr 46 0 [.agg [.fn (.func 18) [.rp n 0 0 0] [], .rs (n + 1) go 0 (es0.length + 1), .c (.int .i64 (-1))]])).get j = σ.get j := fun j h1 h2 => by simp [show j ≠ n by omega]
      refine Fin.same (by simp) ⟨rfl, ⟨by simpa using hn, σ.next, go, es0 ++ [.agg [.c (.bool true), fx, ax]], .fn (.func 18) [.rp n 0 0 0] [], -1, by omega, by simp, by simp, by simp [hO], rfl, rfl, ?_⟩, fun j hj => ?_⟩
      · refine ItemsOk.snoc ?_ (hits.mono hL2 fun j h1 h2 => hsame j h1 (by omega))
        rcases hop with ⟨rfl, rfl, rfl, rfl⟩ | ⟨jf, gf, ja, ga, rfl, rfl, h1, h2, h3, h4, h5, h6, h7⟩
        · exact ⟨.nl, .nl, rfl, .inl ⟨rfl, rfl⟩, .inl (.inl ⟨rfl, rfl⟩)⟩
        · exact ⟨_, _, rfl, .inr ⟨jf, gf, by simp, by omega, h4, by rw [hsame jf (by omega) h4]; exact h6⟩, .inl (.inr ⟨ja, ga, by simp, by omega, h5, by rw [hsame ja (by omega) h5]; exact h7⟩)⟩
      · simp [show j ≠ n by omega]
    · have hw1 : IntKind.i64.wrap (es0.length : Int) = es0.length := wrap64_id (by omega) (by omega)
      have hlt : (es0.length : Int) < es0.length + 1 := by omega
      refine AW.stepR [] [1, 2, 7] (by kernel_rfl) (by kernel_rfl) fun K hK => ?_
      simp [hP, hO, hn1, hn2, hw1, hlt]
      refine hK _ _ ?_; clear hK
      refine AW.drawE [] [.q [0, 9, 16], .q [0, 9, 16, 19], .q [0], .q [0], .q [0], .q [0], .q [0], .q [0], .e, .q [0, 9], .q [0, 9], .q [0, 9], .q [0, 9], .q [0, 9], .q [0, 9], .e, .q [16], .q [16], .e, .q [19], .q [19], .e] (by kernel_rfl) (by kernel_rfl) ?_
      have e : pstep out (some (fv, fs, ns)) w i = (0, out, some (fv, fs ++ [w], ns ++ [i])) := by simp [pstep, hb, hb']
      rw [e] at hK1
      rcases hop with ⟨rfl, rfl, rfl, rfl⟩ | ⟨jf, gf, ja, ga, rfl, rfl, h1, h2, h3, h4, h5, h6, h7⟩
      · simp [hP, hO, hn1, hn2, hn3, hn4]
        refine ⟨by simp [maxLen], ?_⟩
        refine hK1 _ _ ?_; clear hK1
        refine AW.stepL [] [6] fun K hK => ?_
        simp
        refine hK _ _ ?_; clear hK
        refine AW.ret ?_
        simp
        refine Fin.same (by simp; omega) ⟨rfl, ⟨by simp; omega, L, go, es0 ++ [.agg [.c (.bool true), .rs σ.next 0 0 1, .rs (σ.next + 1) 0 0 1]], .fn (.func 22) [.rp n 0 0 0] [], fv, hL1, by simp; omega, ?_, by simp, rfl, rfl, es0, _, _, rfl, ?_, ?_⟩, fun j hj => ?_⟩
        · simp [hn1, hn3, hP]
        · exact hits.mono (Nat.le_refl _) fun j h1 h2 => by simp [show j ≠ n + 1 by omega, show j ≠ σ.next by omega, show j ≠ σ.next + 1 by omega]
        · exact .inr ⟨σ.next, 0, σ.next + 1, 0, by simp, by simp, hL2, by omega, by omega, by simp; omega, by simp, by simp [show σ.next ≠ n + 1 by omega], by simp [show σ.next ≠ n by omega]⟩
        · simp [show j ≠ n + 1 by omega, show j ≠ σ.next by omega, show j ≠ σ.next + 1 by omega]
      · have k1 : ¬ n + 1 = jf := by omega
        have k2 : ¬ n + 1 = ja := by omega
        have k3 : ¬ ja = jf := by omega
        have k4 : ¬ n = jf := by omega
        have k5 : ¬ n = ja := by omega
        simp [hP, hO, hn1, hn2, hn3, hn4, h3, h6, h7, k1, k2, k3]
        refine ⟨by omega, by simp [maxLen]; omega, by omega, by simp [maxLen]; omega, ?_⟩
        refine hK1 _ _ ?_; clear hK1
        refine AW.stepL [] [6] fun K hK => ?_
        simp
        refine hK _ _ ?_; clear hK
        refine AW.ret ?_
        simp
        refine Fin.same (by simp) ⟨rfl, ⟨by simpa using hn, L, go, es0 ++ [.agg [.c (.bool true), .rs jf (gf + 1) 0 (fs.length + 1), .rs ja (ga + 1) 0 (ns.length + 1)]], .fn (.func 22) [.rp n 0 0 0] [], fv, hL1, by simpa using hL2, ?_, by simp, rfl, rfl, es0, _, _, rfl, ?_, ?_⟩, fun j hj => ?_⟩
        · simp [k4, k5, hP]
        · exact hits.mono (Nat.le_refl _) fun j h1 h2 => by simp [show j ≠ n + 1 by omega, show j ≠ jf by omega, show j ≠ ja by omega]
        · exact .inr ⟨jf, gf + 1, ja, ga + 1, by simp, by simp, h1, h2, h3, by simpa using h4, by simpa using h5, by simp [Ne.symm k1, h3], by simp [Ne.symm k2]⟩
        · simp [show j ≠ n + 1 by omega, show j ≠ jf by omega, show j ≠ ja by omega]
def prun : List W → Int → List Item → St → List Item × Int × Int
  | [], _, out, none => (out, 0, 0)
  | [], _, _, some (fr, _, _) => ([], fr, 14)
  | w :: l, i, out, st => if w = [] then ([], i, 13) else if (pstep out st w i).1 = 0 then prun l (i + 1) (pstep out st w i).2.1 (pstep out st w i).2.2 else ([], i, (pstep out st w i).1)

/-- What parsing answers. -/
def pres (ws : List W) : List Item × Int × Int := prun ws 0 [] none

def Items (n : Nat) (σ : Store) (x : AV) (its : List Item) : Prop :=
  (x = .nl ∧ its = []) ∨ ∃ o g es, x = .rs o g 0 es.length ∧ n ≤ o ∧ o < n + 2 ∧ σ.get o = some (.arr 36 g es) ∧ ItemsOk (n + 2) σ.next σ es its

theorem Parse_own (ws : List W) (hl : ws.length ≤ 1000) (σ : Store) : ACalls E 9 [strs ws] σ fun r σ' =>
    (∃ x, r = .tup [x, .c (.int .i64 (pres ws).2.1), .c (.int .i64 (pres ws).2.2)] ∧ Items σ.next σ' x (pres ws).1) ∧ σ.next ≤ σ'.next ∧ ∀ j, j < σ.next → σ'.get j = σ.get j := by
  refine ACalls.enter Tryd.func9 rfl Tryd.ntmps9 Tryd.results9 (by simp) fun hσ => ?_
  refine AW.stepL [] [0] fun K hK => ?_
  simp
  refine hK _ _ ?_; clear hK
  refine AW.stepL [] [0, 5] fun K hK => ?_
  simp
  refine hK _ _ ?_; clear hK
  refine AW.stepL [] [0, 5] fun K hK => ?_
  simp
  refine hK _ _ ?_; clear hK
  refine AW.adoptCell (p := σ.next) (T := 46) (g := 0) (es := [.agg [.fn (.func 18) [.rp σ.next 0 0 0] [], .nl, .c (.int .i64 (-1))]]) (es' := [.agg [.fn (.func 18) [.rp σ.next 0 0 0] [], .rs (σ.next + 1) 0 0 0, .c (.int .i64 (-1))]]) 36 ?_ rfl ?_ ?_ ?_
  · simp
  · intro k e e' h1 h2
    cases k with
    | zero => cases h1; cases h2; rfl
    | succ k => simp at h1
  · intro k e e' j x y h1 h2 h3 h4
    cases k with
    | succ k => simp at h1
    | zero =>
      cases h1; cases h2
      match j, h3, h4 with
      | 0, h3, h4 => cases h3; cases h4; exact .inl rfl
      | 1, h3, h4 => cases h3; cases h4; exact .inr ⟨rfl, by simp⟩
      | 2, h3, h4 => cases h3; cases h4; exact .inl rfl
  refine AW.seqL [5] fun K1 hK1 => ?_
  refine AW.stepL [] [5, 16, 17, 18] fun K hK => ?_
  simp
  refine hK _ _ ?_; clear hK
  refine AW.block ?_
  refine AW.loopS (ι := Nat × List Item × St × Store) (fun x => [(5, .rp σ.next 0 0 0), (16, strs ws), (17, .c (.int .i64 ws.length)), (18, .c (.int .i64 x.1))]) (fun x => x.2.2.2)
    (fun x => x.1 ≤ ws.length ∧ PSt σ.next x.2.2.2 x.2.1 x.2.2.1 ∧ prun (ws.drop x.1) x.1 x.2.1 x.2.2.1 = pres ws ∧ (∀ j, j < σ.next → x.2.2.2.get j = σ.get j) ∧ x.2.1.length ≤ x.1 ∧ ∀ fr fs ns, x.2.2.1 = some (fr, fs, ns) → 0 ≤ fr ∧ fs.length ≤ x.1 ∧ ns.length ≤ x.1) (fun x => ws.length - x.1) (0, [], none, _)
    (fun x hx => by have := hx.2.1.room; omega) ⟨Nat.zero_le _, ⟨by simp, σ.next + 2, 0, [], _, _, by omega, by simp, by simp, by simp, rfl, rfl, trivial⟩, rfl, fun j hj => by simp [show j ≠ σ.next by omega, show j ≠ σ.next + 1 by omega], by simp, fun _ _ _ h => nomatch h⟩ rfl (by simp [Knows]) ?_
  rintro ⟨x, out, st, s1⟩ ⟨hx, hst, hrun, hsame, hol, hop⟩
  simp only at hx hst hrun hsame hol hop ⊢
  refine AW.stepL [] [5, 16, 17, 18, 19] fun K hK => ?_
  simp
  refine hK _ _ ?_; clear hK
  refine AW.seqL [5, 16, 17, 18] fun K2 hK2 => ?_
  refine AW.cond (hb := by simp; rfl) (fun hb => ?_) (fun hb => ?_)
  · simp at hb
    obtain ⟨w, hw⟩ := get_ex hb
    have hlt : (x : Int) < ws.length := by omega
    have hdrop : ws.drop x = w :: ws.drop (x + 1) := by
      rw [List.drop_eq_getElem_cons hb]
      congr 1
      rw [List.getElem?_eq_getElem hb] at hw
      exact Option.some.inj hw
    rw [hdrop] at hrun
    refine AW.skip ?_
    simp
    refine hK2 _ _ ?_; clear hK2
    refine AW.seqL [5, 16, 17, 18] fun K3 hK3 => ?_
    refine AW.block ?_
    refine AW.stepL [] [5, 6, 7, 16, 17, 18] fun K hK => ?_
    simp [hw]
    refine hK _ _ ?_; clear hK
    refine AW.stepL [] [5, 6, 7, 8, 16, 17, 18] fun K hK => ?_
    simp
    refine hK _ _ ?_; clear hK
    refine AW.seqL [5, 6, 8, 16, 17, 18] fun K4 hK4 => ?_
    refine AW.stepL [] [5, 6, 7, 8, 16, 17, 18, 24] fun K hK => ?_
    by_cases hwe : w = []
    · subst hwe
      simp only [prun, if_true] at hrun
      simp
      refine hK _ _ ?_; clear hK
      refine AW.cond (hb := by simp; rfl) (fun hb => ?_) (fun hb => ?_)
      · cases hb
      · refine AW.skip ?_
        simp
        refine hK4 _ _ ?_; clear hK4
        refine AW.stepL [] [5, 6, 8, 16, 17, 18, 33] fun K hK => ?_
        simp
        refine hK _ _ ?_; clear hK
        refine AW.cond (hb := by simp; rfl) (fun hb => ?_) (fun hb => ?_)
        · refine AW.stepL [] [2, 3, 4] fun K hK => ?_
          simp
          refine hK _ _ ?_; clear hK
          refine AW.ret ?_
          simp
          have := hst.room
          refine Fin.same (by omega) ⟨⟨.nl, by rw [← hrun], .inl ⟨rfl, by rw [← hrun]⟩⟩, by omega, hsame⟩
        · cases hb
    · simp only [prun, if_neg hwe] at hrun
      have hwi : w.isEmpty = false := by simpa using hwe
      simp [hwe, hwi]
      refine hK _ _ ?_; clear hK
      refine AW.cond (b := true) (hb := by simp) (fun _ => ?_) (fun hb => nomatch hb)
      have call : ∃ go es fv fid, s1.get σ.next = some (.arr 46 0 [.agg [.fn (.func fid) [.rp σ.next 0 0 0] [], .rs (σ.next + 1) go 0 es, .c (.int .i64 fv)]]) ∧ callable Tryd.prog fid = true ∧
          ∀ Q : AV → Store → Prop, (∀ σ', PSt σ.next σ' (pstep out st w x).2.1 (pstep out st w x).2.2 → (∀ j, j < σ.next → σ'.get j = s1.get j) → Q (.c (.int .i64 (pstep out st w x).1)) σ') → ACalls E fid [.rp σ.next 0 0 0, str w, .c (.int .i64 x)] s1 Q := by
        cases st with
        | none =>
          have hc := outside_c σ.next out w x (by omega) s1 hst
          obtain ⟨_, L, go, es, fn, fv, _, _, hP, _, rfl, rfl, _⟩ := hst
          exact ⟨go, es.length, -1, 18, hP, by kernel_rfl, fun Q hQ => hc.mono fun r σ' ⟨h1, h2, h3⟩ => by rw [h1]; exact hQ σ' h2 h3⟩
        | some o =>
          obtain ⟨fr0, fs, ns⟩ := o
          obtain ⟨_, h1, h2⟩ := hop _ _ _ rfl
          have hc := inside_c σ.next out fr0 fs ns w x (by omega) (by omega) (by omega) s1 hst
          obtain ⟨_, L, go, es, fn, fv, _, _, hP, _, rfl, rfl, _⟩ := hst
          exact ⟨go, es.length, fv, 22, hP, by kernel_rfl, fun Q hQ => hc.mono fun r σ' ⟨h1, h2, h3⟩ => by rw [h1]; exact hQ σ' h2 h3⟩
      obtain ⟨go, es, fv, fid, hP, hcal, hcall⟩ := call
      refine AW.region (ow := []) ?_
      simp [hP, hcal]
      refine hcall _ fun s2 hst2 hsame2 => ?_
      simp
      refine hK4 _ _ ?_; clear hK4
      refine AW.stepL [] [5, 6, 8, 16, 17, 18, 33] fun K hK => ?_
      simp
      refine hK _ _ ?_; clear hK
      refine AW.cond (hb := by simp; first | rfl | exact (Bool.not_not _).symm) (fun hb => ?_) (fun hb => ?_)
      · simp at hb
        rw [if_neg hb] at hrun
        refine AW.stepL [] [2, 3, 4] fun K hK => ?_
        simp
        refine hK _ _ ?_; clear hK
        refine AW.ret ?_
        simp
        have := hst2.room
        refine Fin.same (by omega) ⟨⟨.nl, by rw [← hrun], .inl ⟨rfl, by rw [← hrun]⟩⟩, by omega, fun j hj => by rw [hsame2 j hj, hsame j hj]⟩
      · simp at hb
        rw [if_pos hb] at hrun
        refine AW.skip ?_
        simp
        refine hK3 _ _ ?_; clear hK3
        refine AW.region (ow := []) ?_
        have hw1 : IntKind.i64.wrap ((x : Int) + 1) = (x : Int) + 1 := wrap64_id (by omega) (by omega)
        simp [hw1]
        refine ⟨x + 1, _, _, s2, ⟨by omega, hst2, hrun, fun j hj => by rw [hsame2 j hj, hsame j hj], ?_, ?_⟩, rfl, by simp [Knows], by omega⟩
        · cases st with
          | none => unfold pstep; simp only; split <;> (try split) <;> simp <;> omega
          | some o => obtain ⟨a, b, c⟩ := o; unfold pstep; simp only; split <;> (try split) <;> simp <;> omega
        · intro fr fs ns
          cases st with
          | none =>
            unfold pstep; simp only
            split
            · simp; rintro rfl rfl rfl; simp
            · split <;> simp
          | some o =>
            obtain ⟨a, b, c⟩ := o
            obtain ⟨g1, g2, g3⟩ := hop _ _ _ rfl
            unfold pstep; simp only
            split
            · simp; rintro rfl rfl rfl; exact ⟨g1, by omega, by omega⟩
            · split
              · simp
              · simp; rintro rfl rfl rfl; simp; exact ⟨g1, g2, g3⟩
  · simp at hb
    have hxe : x = ws.length := by omega
    rw [hxe, List.drop_length] at hrun
    refine AW.exit ?_
    simp
    refine hK1 _ _ ?_; clear hK1
    have hroom := hst.room
    cases st with
    | none =>
      have hst' := hst
      obtain ⟨_, L, go, es, fn, fv, hL1, hL2, hP, hO, rfl, rfl, hits⟩ := hst
      refine AW.seqL [5] fun K5 hK5 => ?_
      refine AW.stepL [] [5, 41] fun K hK => ?_
      simp [hP]
      refine hK _ _ ?_; clear hK
      refine AW.cond (b := false) (hb := by simp) (fun hb => nomatch hb) (fun _ => ?_)
      refine AW.skip ?_
      simp
      refine hK5 _ _ ?_; clear hK5
      refine AW.stepL [] [2, 3, 4] fun K hK => ?_
      simp [hP]
      refine hK _ _ ?_; clear hK
      refine AW.ret ?_
      simp
      simp only [prun] at hrun
      refine Fin.same (by omega) ⟨⟨.rs (σ.next + 1) go 0 es.length, by rw [← hrun], .inr ⟨σ.next + 1, go, es, rfl, by omega, by omega, hO, ?_⟩⟩, by omega, hsame⟩
      rw [← hrun]
      exact hits.mono hL2 fun _ _ _ => rfl
    | some o =>
      obtain ⟨fr0, fs, ns⟩ := o
      obtain ⟨g1, g2, g3⟩ := hop _ _ _ rfl
      obtain ⟨_, L, go, es, fn, fv, hL1, hL2, hP, hO, rfl, rfl, hits⟩ := hst
      refine AW.seqL [5] fun K5 hK5 => ?_
      refine AW.stepL [] [5, 41] fun K hK => ?_
      simp [hP]
      refine hK _ _ ?_; clear hK
      refine AW.cond (b := true) (hb := by simp [g1]) (fun _ => ?_) (fun hb => nomatch hb)
      refine AW.stepR [] [2, 3, 4] (by kernel_rfl) (by kernel_rfl) fun K hK => ?_
      simp [hP]
      refine hK _ _ ?_; clear hK
      refine AW.ret ?_
      simp
      simp only [prun] at hrun
      exact Fin.same (by omega) ⟨⟨.nl, by rw [← hrun], .inl ⟨rfl, by rw [← hrun]⟩⟩, by omega, hsame⟩
end Go.Proofs.YtoipkcljmlfobaaDoor
