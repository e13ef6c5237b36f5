/- The decoder: the next bytes, or a panic. No condition. -/
import Derived.Test.YtcjdagpadnahfaaGreatDoorB1
import Derived.Test.YtcjdagpadnahfaaGreatDoorGD
set_option linter.unusedVariables false
set_option linter.unusedSimpArgs false
set_option linter.unnecessarySimpa false
namespace Go.Proofs.YtcjdagpadnahfaaGreatDoor
open Go Go.AW
set_option maxRecDepth 100000
set_option maxHeartbeats 8000000

/-- The value that a failing decoder panics with. -/
def failV (e : Int) : AV := .ifc 137 (.agg [intV e])
/-- With which values it may panic: the error is the one at hand, what lay in the store is as it was. -/
def pb (σ1 : Store) (e : Int) : AV → Store → Prop := fun a s => a = failV e ∧ e ≠ 0 ∧ Below σ1 s
/-- A decoder with these bytes ahead. -/
def isD (σ : Store) (i : Nat) (b : W) : Prop := σ.get i = some (.arr 141 0 [.agg [bytes b]])
def stD (σ : Store) (i : Nat) (b : W) : Store := σ.set i (.arr 141 0 [.agg [bytes b]])
theorem Below.put {σ1 σ : Store} {i : Nat} (h : Below σ1 σ) (hi : σ1.next ≤ i) (o : AObj) : Below σ1 (σ.set i o) := h.set hi o
theorem take_c (σ1 : Store) (e : Int) (σ : Store) (i n : Nat) (b : W) (hd : isD σ i b) (hb : Below σ1 σ) (hi : σ1.next ≤ i) (hbl : b.length ≤ 1000000) (hn : n ≤ 1000000) (he : b.length < n → e = 2) :
    ACalls (E.pn (pb σ1 e)) 102 [.rp i 0 0 0, intV n] σ fun r s => n ≤ b.length ∧ r = bytes (b.take n) ∧ s = stD σ i (b.drop n) := by
  unfold isD at hd
  refine ACalls.enterA [] Tryz.func102 rfl Tryz.ntmps102 Tryz.results102 hmE (by kernel_rfl) (by simp) fun hσ => ?_
  conv => arg 5; cbv
  have hlt := (hσ _ _ hd).1
  by_cases hs : b.length < n
  · simp [-thenK_normal, hd, hs]
    repeat (simp only [thenK_normal]; simp [-thenK_normal, hd, hs])
    exact ⟨by rw [he hs]; rfl, by rw [he hs]; decide, hb⟩
  · simp [-thenK_normal, hd, hs]
    repeat (simp only [thenK_normal]; simp [-thenK_normal, hd, hs])
    exact ⟨by omega, Fin.same (by simp) ⟨by omega, rfl, by simp [stD]⟩⟩
theorem take_z (σ1 : Store) (e : Int) (σ : Store) (i n : Nat) (z : Int) (hz : z = n) (b : W) (hd : isD σ i b) (hb : Below σ1 σ) (hi : σ1.next ≤ i) (hbl : b.length ≤ 1000000) (hn : n ≤ 1000000) (he : b.length < n → e = 2) :
    ACalls (E.pn (pb σ1 e)) 102 [.rp i 0 0 0, .c (.int .i64 z)] σ fun r s => n ≤ b.length ∧ r = bytes (b.take n) ∧ s = stD σ i (b.drop n) := by
  subst hz; exact take_c σ1 e σ i n b hd hb hi hbl hn he
theorem stD_below {σ1 σ : Store} {i : Nat} (h : Below σ1 σ) (hi : σ1.next ≤ i) (c : W) : Below σ1 (stD σ i c) := h.set hi _
@[simp] theorem stD_next (σ : Store) (i : Nat) (c : W) : (stD σ i c).next = σ.next := rfl
theorem number_c (σ1 : Store) (e : Int) (σ : Store) (i : Nat) (b : W) (hd : isD σ i b) (hb : Below σ1 σ) (hi : σ1.next ≤ i) (hbl : b.length ≤ 1000000) (he : b.length < 4 → e = 2) :
    ACalls (E.pn (pb σ1 e)) 103 [.rp i 0 0 0] σ fun r s => 4 ≤ b.length ∧ r = intV (num4 b) ∧ s = stD σ i (b.drop 4) := by
  refine ACalls.enterA [] Tryz.func103 rfl Tryz.ntmps103 Tryz.results103 hmE (by kernel_rfl) (by simp) fun hσ => ?_
  conv => arg 5; cbv
  simp
  refine (take_z σ1 e σ i 4 4 rfl b hd hb hi hbl (by omega) he).mono ?_
  rintro r s ⟨h4, rfl, rfl⟩
  simp
  have h4' : 4 ≤ (b.take 4).length := by simp; omega
  have hg := (get_p (b.take 4) h4').pn (p := pb σ1 e) hpE
  have en : num4 (b.take 4) = num4 b := by simp [num4, List.getElem?_take]
  rw [en] at hg
  simp at hg
  refine Pur.call hg ?_
  simp
  exact Fin.same (by simp) ⟨h4, rfl, rfl⟩
theorem must_c (p : AV → Store → Prop) (c : Bool) (e : Int) (σ : Store) (h : c = false → p (failV e) σ) : ACalls (E.pn p) 101 [boolV c, intV e] σ fun r s => c = true ∧ s = σ := by
  refine ACalls.enterA [] Tryz.func101 rfl Tryz.ntmps101 Tryz.results101 hmE (by kernel_rfl) (by simp) fun hσ => ?_
  conv => arg 5; cbv
  cases c with
  | true =>
    simp
    exact Fin.same (Nat.le_refl _) rfl
  | false =>
    simp
    exact h rfl
theorem take_d {σ1 : Store} {e : Int} {σ : Store} {i n : Nat} {z : Int} {b : W} {K : AV → Store → Prop} (hz : z = n) (hd : isD σ i b) (hb : Below σ1 σ) (hi : σ1.next ≤ i) (hbl : b.length ≤ 1000000) (hn : n ≤ b.length) (hk : K (bytes (b.take n)) (stD σ i (b.drop n))) :
    callD (E.pn (pb σ1 e)) 102 [.rp i 0 0 0, .c (.int .i64 z)] σ K :=
  callD_of ((take_z σ1 e σ i n z hz b hd hb hi hbl (by omega) (by omega)).mono fun r s h => h.2) hk
theorem number_d {σ1 : Store} {e : Int} {σ : Store} {i : Nat} {b : W} {K : AV → Store → Prop} (hd : isD σ i b) (hb : Below σ1 σ) (hi : σ1.next ≤ i) (hbl : b.length ≤ 1000000) (hn : 4 ≤ b.length) (hk : K (intV (num4 b)) (stD σ i (b.drop 4))) :
    callD (E.pn (pb σ1 e)) 103 [.rp i 0 0 0] σ K :=
  callD_of ((number_c σ1 e σ i b hd hb hi hbl (by omega)).mono fun r s h => h.2) hk
theorem isB_mem {l : W} {a : AV} (h : a ∈ l.map byteV) : a.isByte = true := by
  obtain ⟨x, _, rfl⟩ := List.mem_map.1 h; rfl
/-- The store as it was, but for what is known to be new. -/
theorem Fin.cut8 {σ0 σ σ2 : Store} {a : AV} {Q : AV → Store → Prop} (h2 : σ2.next = σ0.next) (hb : Below σ2 σ) (hB : StoreBel σ2) (ha : Bel σ2.next a) (h : Q a σ2) : AW.Fin σ0.next σ a Q :=
  ⟨a, σ2, ⟨by omega, hb.1, fun i o ho => by rw [hb.2 i (hB i o ho).1]; exact ho, .inr hB⟩, .refl _, .inr ha, h⟩
theorem stD_bel {σ : Store} {i : Nat} (hσ : StoreBel σ) (hi : i < σ.next) (b : W) : StoreBel (stD σ i b) := hσ.set_obj hi (by simp [ObjBel])
theorem symbol_c (σ1 : Store) (e : Int) (σ : Store) (i : Nat) (b : W) (hd : isD σ i b) (hb : Below σ1 σ) (hi : σ1.next ≤ i) (hbl : b.length ≤ 1000000) (he : b.length < 10 ∨ b.length < 10 + (b.getD 9 0).toNat → e = 2) :
    ACalls (E.pn (pb σ1 e)) 104 [.rp i 0 0 0] σ fun r s => 10 + (b.getD 9 0).toNat ≤ b.length ∧ r = symV (symAt b) ∧ s = stD σ i (b.drop (10 + (b.getD 9 0).toNat)) := by
  have hd0 := hd
  unfold isD at hd0
  refine ACalls.enterA [] Tryz.func104 rfl Tryz.ntmps104 Tryz.results104 hmE (by kernel_rfl) (by simp) fun hσ => ?_
  conv => arg 5; cbv
  have hlt := (hσ _ _ hd0).1
  have n0 : ¬ i = σ.next := by omega
  have n1 : ¬ i = σ.next + 1 := by omega
  have hb1 := hb.1
  have m0 : ¬ σ.next = i := by omega
  have m1 : ¬ σ.next + 1 = i := by omega
  by_cases hs : b.length < 10
  · have e10 : ((b.length : Int) < 10) = True := by simp; omega
    simp [-thenK_normal, hd0, e10, n0]
    repeat (simp only [thenK_normal]; simp [-thenK_normal, hd0, e10, n0])
    exact ⟨by rw [he (.inl hs)]; rfl, by rw [he (.inl hs)]; decide, hb.alloc _⟩
  · have e10 : ((b.length : Int) < 10) = False := by simp; omega
    obtain ⟨b0, h0⟩ := get_ex (l := b) (i := 0) (by omega)
    have hb0 := b0.toNat_lt
    have c0 : IntKind.i64.wrap (b0.toNat : Int) = b0.toNat := wrap64_id (by omega) (by omega)
    simp [-thenK_normal, hd0, e10, n0]
    repeat (simp only [thenK_normal]; simp [-thenK_normal, hd0, e10, n0])
    have t9 : (b.drop 9).length = b.length - 9 := by simp
    obtain ⟨b9, h9⟩ := get_ex (l := b) (i := 9) (by omega)
    have hb9 := b9.toNat_lt
    have c9 : IntKind.i64.wrap (b9.toNat : Int) = b9.toNat := wrap64_id (by omega) (by omega)
    have hg9 : b.getD 9 0 = b9 := by simp [List.getD, h9]
    have t10 : (b.drop 10).length = b.length - 10 := by simp
    have t1 : (b.drop 1).length = b.length - 1 := by simp
    have t5 : (b.drop 5).length = b.length - 5 := by simp
    refine ⟨?_, ?_, ?_, ?_⟩
    all_goals
      refine take_d (n := 1) (b := b) rfl (by simp [isD, n0, n1, hd0]) (by repeat (first | exact hb | refine Below.put ?_ (by first | exact hi | omega) _ | refine Below.alloc ?_ _)) hi hbl (by omega) ?_
      simp [-thenK_normal, stD, n0, n1, m0, m1, h0, c0]
      refine number_d (b := b.drop 1) (by simp [isD, n0, n1]) (by repeat (first | exact hb | refine Below.put ?_ (by first | exact hi | omega) _ | refine Below.alloc ?_ _)) hi (by omega) (by omega) ?_
      simp [-thenK_normal, stD, n0, n1, m0, m1, h0, c0]
      refine number_d (b := b.drop 5) (by simp [isD, n0, n1]) (by repeat (first | exact hb | refine Below.put ?_ (by first | exact hi | omega) _ | refine Below.alloc ?_ _)) hi (by omega) (by omega) ?_
      simp [-thenK_normal, stD, n0, n1, m0, m1, h0, c0]
      repeat (simp only [thenK_normal]; simp [-thenK_normal, stD, n0, n1, m0, m1, h0, c0])
      refine (take_z σ1 e _ i 1 1 rfl (b.drop 9) (by simp [isD, n0, n1]) (by repeat (first | exact hb | refine Below.put ?_ (by first | exact hi | omega) _ | refine Below.alloc ?_ _)) hi (by omega) (by omega) (by omega)).mono ?_
      rintro r s ⟨_, rfl, rfl⟩
      simp [-thenK_normal, stD, n0, n1, m0, m1, h9, c9]
      refine (take_z σ1 e _ i b9.toNat b9.toNat rfl (b.drop 10) (by simp [isD, n0, n1]) (by repeat (first | exact hb | refine Below.put ?_ (by first | exact hi | omega) _ | refine Below.alloc ?_ _)) hi (by omega) (by omega) (fun h => he (.inr (by rw [hg9]; omega)))).mono ?_
      rintro r s ⟨h10, rfl, rfl⟩
      simp [-thenK_normal, stD, n0, n1, m0, m1]
      repeat (simp only [thenK_normal]; simp [-thenK_normal, stD, n0, n1, m0, m1])
      refine ⟨fun a ha => isB_mem (List.mem_of_mem_drop (List.mem_of_mem_take ha)), Fin.cut8 (σ2 := stD σ i (b.drop (10 + b9.toNat))) rfl ⟨by simp, fun j hj => ?_⟩ (stD_bel hσ hlt _) (by simp) ⟨by omega, ?_, ?_⟩⟩
      · simp at hj
        by_cases hji : j = i
        · subst hji; simp [stD, n0, n1]
        · simp [stD, hji, show ¬ j = σ.next by omega, show ¬ j = σ.next + 1 by omega]
      · simp [symAt, h0, h9]
      · simp [stD]
end Go.Proofs.YtcjdagpadnahfaaGreatDoor
