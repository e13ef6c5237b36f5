/- Merged texts, in order: The reference's Print. No condition. | The reference's Few and Printable. No condition. -/
import Derived.Test.YtebjdgcnnonjoaaDoorGG
section
set_option linter.unusedVariables false
set_option linter.unusedSimpArgs false
set_option linter.unnecessarySimpa false
namespace Go.Proofs.YtebjdgcnnonjoaaDoor
open Go Go.AW
set_option maxRecDepth 100000
set_option maxHeartbeats 100000000

def mpO (T : TypeId) (m : Mp) : AObj := .arr T 0 [.agg [.ps (m.us.map uV), .ps (m.ss.map syV), .ps (m.ts.map slV)]]
theorem mpO_bel {n : Nat} (T : TypeId) (m : Mp) : ObjBel n (mpO T m) := by
  intro e he x hx
  simp at he
  subst he
  simp [AV.cells] at hx
  rcases hx with rfl | rfl | rfl
  · exact .ps _ (by simp)
  · exact .ps _ (by simp)
  · exact .ps _ (by simp)
theorem boxM {σ : Store} (hσ : StoreBel σ) (T : TypeId) (m : Mp) : ∃ σ1, σ1 = σ.alloc (mpO T m) ∧ StoreBel σ1 ∧ σ1.next = σ.next + 1 ∧ σ1.get σ.next = some (mpO T m) ∧ Below σ σ1 :=
  ⟨_, rfl, hσ.alloc_obj (mpO_bel T m), rfl, by simp, (Below.refl σ).alloc _⟩
theorem ite_le {α : Type} {n k : Nat} {a b : α} (h : n ≤ k) : (if n ≤ k then a else b) = a := if_pos h
theorem rPrint_p (m : Mp) (hok : m.ok = true) (hm : m.pr.length ≤ 100000) : Pur E 21 [mpV m] (str m.pr) := by
  have hlen : m.pr.length = (prU m.us).length + (prS m.ss).length + (prT m.ts).length + 4 := by simp [Mp.pr, Mp.txt, lnW, jn, wEnd]; omega
  have l1 := len_prU m.us
  have l2 := len_prS m.ss
  have l3 := len_prT m.ts
  refine Pur.enter [] Tryd.func21 rfl Tryd.ntmps21 Tryd.results21 hmE (by kernel_rfl) (by simp) (by simp) fun σ hσ => ?_
  conv => arg 5; cbv
  simp [mpV]
  obtain ⟨σ1, e1, b1, n1, g1, o1⟩ := boxM hσ 33 m
  have e1' := e1
  simp only [mpO] at e1' g1
  rw [← e1']
  have z1 : ¬ σ.next = σ1.next := by omega
  have z2 : σ.next < σ1.next := by omega
  have z3 : ¬ σ1.next = σ.next := by omega
  refine loop_n hmE (by kernel_rfl) m.us.length (fun i => [(3, str (prU (m.us.take i))), (4, intV i)]) (fun i => i ≤ m.us.length) (by omega) b1 (Nat.zero_le _) (by simp [z2]) (by simp [prU]) fun i hi => ?_
  have hpl := prU_le m.us i
  have c1 : (prU (m.us.take i)).length ≤ 9223372036854775802 := by omega
  simp [g1, uV, z1, z3, c1]
  refine ⟨fun h => ?_, fun h => ?_⟩
  · obtain ⟨u, hu⟩ := get_ex h
    have hsn := prU_snoc hu
    have hle := prU_le m.us (i + 1)
    rw [hsn] at hle
    have hlw : (lnW (Ln.u u).ws).length ≤ 100000 := by
      show (lnW u.ws).length ≤ _
      simp at hle
      omega
    have hwl := ln_le hlw
    have hui : inB u.i = true := by
      simp [Mp.ok] at hok
      have := hok.1.1 u (List.mem_of_getElem? hu)
      simp [U.ok] at this
      exact this.1.2
    simp [inB] at hui
    refine ⟨u, hu, ?_⟩
    have hw : IntKind.i64.wrap ((i : Int) + 1) = (i : Int) + 1 := wrap_succ h (by omega)
    have hf : u.f.length ≤ 100000 := by
      have := hwl (esc u.f) (by show esc u.f ∈ u.ws; rw [U.ws]; split <;> simp)
      have := (esc_len u.f).1
      omega
    have hf3 := esc_len u.f
    refine Pur.call (rEscape_p u.f (by omega)) ?_
    simp
    repeat (simp (disch := omega) only [ite_le]; try simp)
    refine ⟨fun hum => ?_, fun hum => ?_⟩
    · have hws : u.ws = [wUnit, esc u.f, esc u.m, nt u.i] := by rw [U.ws, if_neg hum]
      have hf2 : u.m.length ≤ 100000 := by
        have := hwl (esc u.m) (by show esc u.m ∈ u.ws; rw [hws]; simp)
        have := (esc_len u.m).1
        omega
      have hf4 := esc_len u.m
      have hnl : (nt u.i).length ≤ 100000 := hwl (nt u.i) (by show nt u.i ∈ u.ws; rw [hws]; simp)
      repeat (simp (disch := omega) only [ite_le]; try simp)
      refine Pur.d (rEscape_p u.m (by omega)) ?_
      simp
      repeat (simp (disch := omega) only [ite_le]; try simp)
      refine Pur.d (rnum_p u.i (by omega)) ?_
      simp
      repeat (simp (disch := omega) only [ite_le]; try simp)
      refine ⟨⟨?_, hw⟩, h, by omega⟩
      rw [hsn, lnW, hws]
      simp [jn, wUnit]
    · have hws : u.ws = [wUnit, esc u.f] := by rw [U.ws, if_pos hum]
      repeat (simp (disch := omega) only [ite_le]; try simp)
      refine ⟨⟨?_, hw⟩, h, by omega⟩
      rw [hsn, lnW, hws]
      simp [jn, wUnit]
  · rw [List.take_of_length_le h]
    clear hi h i hpl c1
    refine loop_n hmE (by kernel_rfl) m.ss.length (fun i => [(3, str (prU m.us ++ prS (m.ss.take i))), (6, intV i)]) (fun i => i ≤ m.ss.length) (by omega) b1 (Nat.zero_le _) (by simp [z2]) (by simp [prS]) fun i hi => ?_
    have hpl := prS_le m.ss i
    simp [g1, syV, z1, z3]
    refine ⟨fun h => ?_, fun h => ?_⟩
    · obtain ⟨u, hu⟩ := get_ex h
      have hsn := prS_snoc hu
      have hle := prS_le m.ss (i + 1)
      rw [hsn] at hle
      have hlw : (lnW (Ln.s u).ws).length ≤ 100000 := by
        show (lnW u.ws).length ≤ _
        simp at hle
        omega
      have hwl := ln_le hlw
      have hw : IntKind.i64.wrap ((i : Int) + 1) = (i : Int) + 1 := wrap_succ h (by omega)
      have hui : u.ok = true := by
        simp [Mp.ok] at hok
        exact hok.1.2 u (List.mem_of_getElem? hu)
      simp [Sy.ok, inB] at hui
      have hf := hwl (esc u.n) (by show esc u.n ∈ u.ws; simp [Sy.ws])
      have hf2 := hwl (bnd u.b) (by show bnd u.b ∈ u.ws; simp [Sy.ws])
      have hf3 := hwl (nt u.z) (by show nt u.z ∈ u.ws; simp [Sy.ws])
      have hf4 := hwl (nt u.a) (by show nt u.a ∈ u.ws; simp [Sy.ws])
      have hf5 := hwl (nt u.u) (by show nt u.u ∈ u.ws; simp [Sy.ws])
      have hf6 := esc_len u.n
      refine ⟨u, hu, ?_⟩
      repeat (simp (disch := omega) only [ite_le]; try simp)
      refine Pur.d (rEscape_p u.n (by omega)) ?_
      simp
      repeat (simp (disch := omega) only [ite_le]; try simp)
      refine Pur.d (rbinding_p u.b) ?_
      simp
      repeat (simp (disch := omega) only [ite_le]; try simp)
      refine Pur.d (rnum_p u.z (by omega)) ?_
      simp
      repeat (simp (disch := omega) only [ite_le]; try simp)
      refine Pur.d (rnum_p u.a (by omega)) ?_
      simp
      repeat (simp (disch := omega) only [ite_le]; try simp)
      refine Pur.d (rnum_p u.u (by omega)) ?_
      simp
      repeat (simp (disch := omega) only [ite_le]; try simp)
      refine ⟨⟨?_, hw⟩, h, by omega⟩
      rw [hsn, lnW, Sy.ws]
      simp [jn, wSymbol]
    · rw [List.take_of_length_le h]
      clear hi h i hpl
      refine loop_n hmE (by kernel_rfl) m.ts.length (fun i => [(3, str (prU m.us ++ prS m.ss ++ prT (m.ts.take i))), (8, intV i)]) (fun i => i ≤ m.ts.length) (by omega) b1 (Nat.zero_le _) (by simp [z2]) (by simp [prT]) fun i hi => ?_
      have hpl := prT_le m.ts i
      simp [g1, slV, z1, z3]
      refine ⟨fun h => ?_, fun h => ?_⟩
      · obtain ⟨u, hu⟩ := get_ex h
        have hsn := prT_snoc hu
        have hle := prT_le m.ts (i + 1)
        rw [hsn] at hle
        have hlw : (lnW (Ln.t u).ws).length ≤ 100000 := by
          show (lnW u.ws).length ≤ _
          simp at hle
          omega
        have hwl := ln_le hlw
        have hw : IntKind.i64.wrap ((i : Int) + 1) = (i : Int) + 1 := wrap_succ h (by omega)
        have hui : u.ok = true := by
          simp [Mp.ok] at hok
          exact hok.2 u (List.mem_of_getElem? hu)
        simp [Sl.ok, inB] at hui
        have hf := hwl (esc u.n) (by show esc u.n ∈ u.ws; simp [Sl.ws])
        have hf3 := hwl (nt u.o) (by show nt u.o ∈ u.ws; simp [Sl.ws])
        have hf4 := hwl (nt u.z) (by show nt u.z ∈ u.ws; simp [Sl.ws])
        have hf6 := esc_len u.n
        refine ⟨u, hu, ?_⟩
        repeat (simp (disch := omega) only [ite_le]; try simp)
        refine Pur.d (rEscape_p u.n (by omega)) ?_
        simp
        repeat (simp (disch := omega) only [ite_le]; try simp)
        refine Pur.d (rnum_p u.o (by omega)) ?_
        simp
        repeat (simp (disch := omega) only [ite_le]; try simp)
        refine Pur.d (rnum_p u.z (by omega)) ?_
        simp
        repeat (simp (disch := omega) only [ite_le]; try simp)
        refine ⟨⟨?_, hw⟩, h, by omega⟩
        rw [hsn, lnW, Sl.ws]
        simp [jn, wSlot]
      · rw [List.take_of_length_le h]
        repeat (simp (disch := omega) only [ite_le]; try simp)
        simp [Mp.pr, Mp.txt, lnW, jn, wEnd, o1]
end Go.Proofs.YtebjdgcnnonjoaaDoor
end

section
set_option linter.unusedVariables false
set_option linter.unusedSimpArgs false
set_option linter.unnecessarySimpa false
namespace Go.Proofs.YtebjdgcnnonjoaaDoor
open Go Go.AW
set_option maxRecDepth 100000
set_option maxHeartbeats 100000000

def few (m : Mp) : Bool := decide (m.us.length ≤ 30 ∧ m.ss.length ≤ 30 ∧ m.ts.length ≤ 30) && (m.us.all fun u => decide (u.f.length ≤ 50 ∧ u.m.length ≤ 50)) && (m.ss.all fun u => decide (u.n.length ≤ 50)) && m.ts.all fun u => decide (u.n.length ≤ 50)
theorem all_snoc {α : Type} {p : α → Bool} {l : List α} {i : Nat} {x : α} (h : l[i]? = some x) : (l.take (i + 1)).all p = ((l.take i).all p && p x) := by
  rw [List.take_add_one, h]; simp
theorem all_bad {α : Type} {p : α → Bool} {l : List α} {i : Nat} {x : α} (h : l[i]? = some x) (hp : p x = false) : l.all p = false := by
  rw [List.all_eq_false]
  exact ⟨x, List.mem_of_getElem? h, by simp [hp]⟩
theorem bnd_nil (b : Int) : bnd b = [] ↔ ¬ (1 ≤ b ∧ b ≤ 5) := by
  unfold bnd
  split
  · rename_i h
    have : b = 1 ∨ b = 2 ∨ b = 3 ∨ b = 4 ∨ b = 5 := by omega
    rcases this with rfl | rfl | rfl | rfl | rfl <;> simp [bnames]
  · rename_i h; simp; omega
theorem ok_iff (m : Mp) : m.ok = true ↔ (∀ x ∈ m.us, x.ok = true) ∧ (∀ x ∈ m.ss, x.ok = true) ∧ ∀ x ∈ m.ts, x.ok = true := by
  simp [Mp.ok, and_assoc]
theorem ok_badU {m : Mp} {i : Nat} {x : U} (h : m.us[i]? = some x) (hp : x.ok = false) : m.ok = false := by
  rw [Bool.eq_false_iff]; intro e; have := ((ok_iff m).1 e).1 x (List.mem_of_getElem? h); rw [hp] at this; exact absurd this (by simp)
theorem ok_badS {m : Mp} {i : Nat} {x : Sy} (h : m.ss[i]? = some x) (hp : x.ok = false) : m.ok = false := by
  rw [Bool.eq_false_iff]; intro e; have := ((ok_iff m).1 e).2.1 x (List.mem_of_getElem? h); rw [hp] at this; exact absurd this (by simp)
theorem ok_badT {m : Mp} {i : Nat} {x : Sl} (h : m.ts[i]? = some x) (hp : x.ok = false) : m.ok = false := by
  rw [Bool.eq_false_iff]; intro e; have := ((ok_iff m).1 e).2.2 x (List.mem_of_getElem? h); rw [hp] at this; exact absurd this (by simp)
theorem mem_snoc {α : Type} {p : α → Prop} {l : List α} {i : Nat} {x : α} (h : l[i]? = some x) (hl : ∀ y ∈ l.take i, p y) (hx : p x) : ∀ y ∈ l.take (i + 1), p y := by
  rw [List.take_add_one, h]
  intro y hy
  simp at hy
  rcases hy with hy | rfl
  · exact hl y hy
  · exact hx
theorem Printable_p (m : Mp) (h1 : m.us.length ≤ 1000000) (h2 : m.ss.length ≤ 1000000) (h3 : m.ts.length ≤ 1000000) : Pur E 18 [mpV m] (boolV m.ok) := by
  refine Pur.enter [] Tryd.func18 rfl Tryd.ntmps18 Tryd.results18 hmE (by kernel_rfl) (by simp) (by simp) fun σ hσ => ?_
  conv => arg 5; cbv
  simp [mpV]
  obtain ⟨σ1, e1, b1, n1, g1, o1⟩ := boxM hσ 33 m
  have e1' := e1
  simp only [mpO] at e1' g1
  rw [← e1']
  have z1 : ¬ σ.next = σ1.next := by omega
  have z2 : σ.next < σ1.next := by omega
  have z3 : ¬ σ1.next = σ.next := by omega
  refine loop_n hmE (by kernel_rfl) m.us.length (fun i => [(3, intV i)]) (fun i => i ≤ m.us.length ∧ ∀ x ∈ m.us.take i, x.ok = true) (by omega) b1 ⟨Nat.zero_le _, by simp⟩ (by simp [z2]) (by simp) ?_
  rintro i ⟨hi, hall⟩
  have o2 : ∀ o, Below σ (σ1.alloc o) := fun o => o1.alloc o
  simp [g1, uV, z1, z3, o2]
  refine ⟨fun h => ?_, fun h => ?_⟩
  · obtain ⟨u, hu⟩ := get_ex h
    have hw : IntKind.i64.wrap ((i : Int) + 1) = (i : Int) + 1 := wrap_succ h (by omega)
    have hsn : u.ok = true → ∀ y ∈ m.us.take (i + 1), y.ok = true := mem_snoc hu hall
    have hbd : u.ok = false → m.ok = false := ok_badU hu
    refine ⟨u, hu, fun hf => hbd (by simp [U.ok, hf]), fun hf => ?_⟩
    refine Pur.call (rin_p u.i) ?_
    simp [o2]
    refine ⟨fun hi => hbd (by simp [U.ok, hi]), fun hi => ?_⟩
    refine ⟨fun hm => ⟨fun h0 => hbd (by simp [U.ok, hm, h0]), fun h0 => ?_⟩, fun hm => ?_⟩
    · exact ⟨hw, ⟨h, hsn (by simp [U.ok, hf, hm, h0, inB])⟩, by omega⟩
    · exact ⟨hw, ⟨h, hsn (by simp [U.ok, hf, hi, hm])⟩, by omega⟩
  · rw [List.take_of_length_le h] at hall
    clear hi h i
    have oU := hall
    clear hall
    refine loop_n hmE (by kernel_rfl) m.ss.length (fun i => [(5, intV i)]) (fun i => i ≤ m.ss.length ∧ ∀ x ∈ m.ss.take i, x.ok = true) (by omega) b1 ⟨Nat.zero_le _, by simp⟩ (by simp [z2]) (by simp) ?_
    rintro i ⟨hi, hall⟩
    simp [g1, syV, z1, z3, o2]
    refine ⟨fun h => ?_, fun h => ?_⟩
    · obtain ⟨u, hu⟩ := get_ex h
      have hw : IntKind.i64.wrap ((i : Int) + 1) = (i : Int) + 1 := wrap_succ h (by omega)
      have hsn : u.ok = true → ∀ y ∈ m.ss.take (i + 1), y.ok = true := mem_snoc hu hall
      have hbd : u.ok = false → m.ok = false := ok_badS hu
      refine ⟨u, hu, fun hf => hbd (by simp [Sy.ok, hf]), fun hf => ?_⟩
      refine Pur.call (rbinding_p u.b) ?_
      simp [bnd_nil, o2]
      refine ⟨fun hb => hbd (by simp [Sy.ok]; omega), fun hb hb' => ?_⟩
      refine Pur.call (rin_p u.z) ?_
      simp [o2]
      refine ⟨fun hi => hbd (by simp [Sy.ok, hi]), fun hz => ?_⟩
      refine Pur.call (rin_p u.a) ?_
      simp [o2]
      refine ⟨fun hi => hbd (by simp [Sy.ok, hi]), fun ha => ?_⟩
      refine Pur.call (rin_p u.u) ?_
      simp [o2]
      refine ⟨fun hu0 => ⟨fun h1 => hbd (by simp [Sy.ok, hu0, h1]), fun h1 => ⟨hw, ⟨h, hsn ?_⟩, by omega⟩⟩, fun hu1 => ⟨hw, ⟨h, hsn ?_⟩, by omega⟩⟩
      · simp [Sy.ok, hf, hb, hb', hz, ha, h1]
      · simp [Sy.ok, hf, hb, hb', hz, ha, hu1]
    · rw [List.take_of_length_le h] at hall
      clear hi h i
      have oS := hall
      clear hall
      refine loop_n hmE (by kernel_rfl) m.ts.length (fun i => [(7, intV i)]) (fun i => i ≤ m.ts.length ∧ ∀ x ∈ m.ts.take i, x.ok = true) (by omega) b1 ⟨Nat.zero_le _, by simp⟩ (by simp [z2]) (by simp) ?_
      rintro i ⟨hi, hall⟩
      simp [g1, slV, z1, z3, o2]
      refine ⟨fun h => ?_, fun h => ?_⟩
      · obtain ⟨u, hu⟩ := get_ex h
        have hw : IntKind.i64.wrap ((i : Int) + 1) = (i : Int) + 1 := wrap_succ h (by omega)
        have hsn : u.ok = true → ∀ y ∈ m.ts.take (i + 1), y.ok = true := mem_snoc hu hall
        have hbd : u.ok = false → m.ok = false := ok_badT hu
        refine ⟨u, hu, fun hf => hbd (by simp [Sl.ok, hf]), fun hf => ?_⟩
        refine Pur.call (rin_p u.o) ?_
        simp [o2]
        refine ⟨fun hi => hbd (by simp [Sl.ok, hi]), fun hi => ?_⟩
        refine Pur.call (rin_p u.z) ?_
        simp [o2]
        refine ⟨fun hz => hbd (by simp [Sl.ok, hz]), fun hz => ?_⟩
        exact ⟨hw, ⟨h, hsn (by simp [Sl.ok, hf, hi, hz])⟩, by omega⟩
      · rw [List.take_of_length_le h] at hall
        exact ⟨(ok_iff m).2 ⟨oU, oS, hall⟩, o1⟩
theorem few_iff (m : Mp) : few m = true ↔ (m.us.length ≤ 30 ∧ m.ss.length ≤ 30 ∧ m.ts.length ≤ 30) ∧ (∀ u ∈ m.us, u.f.length ≤ 50 ∧ u.m.length ≤ 50) ∧ (∀ u ∈ m.ss, u.n.length ≤ 50) ∧ ∀ u ∈ m.ts, u.n.length ≤ 50 := by
  simp [few, and_assoc]
theorem few_badU {m : Mp} {i : Nat} {x : U} (h : m.us[i]? = some x) (hp : ¬ (x.f.length ≤ 50 ∧ x.m.length ≤ 50)) : few m = false := by
  rw [Bool.eq_false_iff]; intro e; exact hp (((few_iff m).1 e).2.1 x (List.mem_of_getElem? h))
theorem few_badS {m : Mp} {i : Nat} {x : Sy} (h : m.ss[i]? = some x) (hp : ¬ x.n.length ≤ 50) : few m = false := by
  rw [Bool.eq_false_iff]; intro e; exact hp (((few_iff m).1 e).2.2.1 x (List.mem_of_getElem? h))
theorem few_badT {m : Mp} {i : Nat} {x : Sl} (h : m.ts[i]? = some x) (hp : ¬ x.n.length ≤ 50) : few m = false := by
  rw [Bool.eq_false_iff]; intro e; exact hp (((few_iff m).1 e).2.2.2 x (List.mem_of_getElem? h))
theorem Few_p (m : Mp) : Pur E 17 [mpV m] (boolV (few m)) := by
  refine Pur.enter [] Tryd.func17 rfl Tryd.ntmps17 Tryd.results17 hmE (by kernel_rfl) (by simp) (by simp) fun σ hσ => ?_
  conv => arg 5; cbv
  simp [mpV]
  obtain ⟨σ1, e1, b1, n1, g1, o1⟩ := boxM hσ 33 m
  have e1' := e1
  simp only [mpO] at e1' g1
  rw [← e1']
  have z1 : ¬ σ.next = σ1.next := by omega
  have z2 : σ.next < σ1.next := by omega
  have z3 : ¬ σ1.next = σ.next := by omega
  have o2 : ∀ o, Below σ (σ1.alloc o) := fun o => o1.alloc o
  refine loop_n hmE (by kernel_rfl) 31 (fun i => [(3, intV i)]) (fun i => i ≤ m.us.length ∧ i ≤ 31 ∧ ∀ u ∈ m.us.take i, u.f.length ≤ 50 ∧ u.m.length ≤ 50) (by omega) b1 ⟨Nat.zero_le _, by omega, by simp⟩ (by simp [z2]) (by simp) ?_
  rintro i ⟨hi, hi2, hall⟩
  simp [g1, uV, z1, z3, o1]
  refine ⟨fun h => ⟨fun h30 => ?_, fun h30 => ?_⟩, fun h => ?_⟩
  · obtain ⟨u, hu⟩ := get_ex h
    have hw : IntKind.i64.wrap ((i : Int) + 1) = (i : Int) + 1 := wrap64_id (by omega) (by omega)
    refine ⟨u, hu, fun hb => few_badU hu (by omega), fun hf => ⟨u, hu, fun hb => few_badU hu (by omega), fun hf2 => ⟨hw, ⟨h, by omega, mem_snoc hu hall (by omega)⟩, by omega⟩⟩⟩
  all_goals
    have oU : m.us.length ≤ 30 → ∀ u ∈ m.us, u.f.length ≤ 50 ∧ u.m.length ≤ 50 := by
      intro hl
      first | (exfalso; omega) | (rw [List.take_of_length_le h] at hall; exact hall)
    clear h hall hi hi2
    try clear h30
    clear i
    refine loop_n hmE (by kernel_rfl) 31 (fun i => [(4, intV i)]) (fun i => i ≤ m.ss.length ∧ i ≤ 31 ∧ ∀ u ∈ m.ss.take i, u.n.length ≤ 50) (by omega) b1 ⟨Nat.zero_le _, by omega, by simp⟩ (by simp [z2]) (by simp) ?_
    rintro i ⟨hi, hi2, hall⟩
    simp [g1, syV, z1, z3, o1]
    refine ⟨fun h => ⟨fun h30 => ?_, fun h30 => ?_⟩, fun h => ?_⟩
    · obtain ⟨u, hu⟩ := get_ex h
      have hw : IntKind.i64.wrap ((i : Int) + 1) = (i : Int) + 1 := wrap64_id (by omega) (by omega)
      refine ⟨u, hu, fun hb => few_badS hu (by omega), fun hf => ⟨hw, ⟨h, by omega, mem_snoc hu hall (by omega)⟩, by omega⟩⟩
  all_goals
    have oS : m.ss.length ≤ 30 → ∀ u ∈ m.ss, u.n.length ≤ 50 := by
      intro hl
      first | (exfalso; omega) | (rw [List.take_of_length_le h] at hall; exact hall)
    clear h hall hi hi2
    try clear h30
    clear i
    refine loop_n hmE (by kernel_rfl) 31 (fun i => [(5, intV i)]) (fun i => i ≤ m.ts.length ∧ i ≤ 31 ∧ ∀ u ∈ m.ts.take i, u.n.length ≤ 50) (by omega) b1 ⟨Nat.zero_le _, by omega, by simp⟩ (by simp [z2]) (by simp) ?_
    rintro i ⟨hi, hi2, hall⟩
    simp [g1, slV, z1, z3, o1]
    refine ⟨fun h => ⟨fun h30 => ?_, fun h30 => ?_⟩, fun h => ?_⟩
    · obtain ⟨u, hu⟩ := get_ex h
      have hw : IntKind.i64.wrap ((i : Int) + 1) = (i : Int) + 1 := wrap64_id (by omega) (by omega)
      refine ⟨u, hu, fun hb => few_badT hu (by omega), fun hf => ⟨hw, ⟨h, by omega, mem_snoc hu hall (by omega)⟩, by omega⟩⟩
  all_goals
    have oT : m.ts.length ≤ 30 → ∀ u ∈ m.ts, u.n.length ≤ 50 := by
      intro hl
      first | (exfalso; omega) | (rw [List.take_of_length_le h] at hall; exact hall)
    clear h hall hi hi2
    try clear h30
    clear i
    have hno : ¬ (m.us.length ≤ 30 ∧ m.ss.length ≤ 30 ∧ m.ts.length ≤ 30) → few m = false := by
      intro hn
      rw [Bool.eq_false_iff]
      intro e
      exact hn ((few_iff m).1 e).1
    refine ⟨fun h1 => ⟨fun h2 => ?_, fun h2 => hno (by omega)⟩, fun h1 => hno (by omega)⟩
    by_cases h3 : m.ts.length ≤ 30
    · rw [(few_iff m).2 ⟨by omega, oU (by omega), oS (by omega), oT h3⟩]
      simp
      omega
    · rw [hno (by omega)]
      simp
      omega
end Go.Proofs.YtebjdgcnnonjoaaDoor
end
