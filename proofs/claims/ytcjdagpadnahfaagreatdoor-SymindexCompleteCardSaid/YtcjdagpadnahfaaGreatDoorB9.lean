/- The index. No condition. -/
import Derived.Test.YtcjdagpadnahfaaGreatDoorB8
set_option linter.unusedVariables false
set_option linter.unusedSimpArgs false
set_option linter.unnecessarySimpa false
namespace Go.Proofs.YtcjdagpadnahfaaGreatDoor
open Go Go.AW
set_option maxRecDepth 100000
set_option maxHeartbeats 8000000

theorem ent1_c (offs : List Int) (k : Nat) (n : W) (o i : Int) (hk : offs[k]? = some o) (c1 c2 : Nat) (σ : Store) (h1 : σ.get c1 = some (.arr 27 0 [ints offs])) (h2 : σ.get c2 = some (.arr 3 0 [intV k])) :
    ACalls E 41 [intV i, str n, .rp c1 0 0 0, .rp c2 0 0 0] σ fun a s => a = entsV [⟨n, o⟩] ∧ s = σ := by
  refine ACalls.enterA [] Tryz.func41 rfl Tryz.ntmps41 Tryz.results41 hmE (by kernel_rfl) (by simp) fun hσ => ?_
  conv => arg 5; cbv
  simp at h1
  simp [h1, h2]
  refine ⟨o, hk, ?_⟩
  exact Fin.same (by simp) ⟨rfl, rfl⟩
def entL (o : Int) (l : List W) : List En := l.map fun n => ⟨n, o⟩
theorem entL_snoc {o : Int} {l : List W} {i : Nat} {n : W} (h : l[i]? = some n) : entL o (l.take (i + 1)) = entL o (l.take i) ++ [⟨n, o⟩] := by
  rw [List.take_add_one, h]; simp [entL]
@[simp] theorem entL_len (o : Int) (l : List W) : (entL o l).length = l.length := by simp [entL]
theorem ents_c (offs : List Int) (k : Nat) (l : List W) (hl : l.length ≤ 1000000) (o : Int) (hk : offs[k]? = some o) (c1 c2 : Nat) (σ : Store) (h1 : σ.get c1 = some (.arr 27 0 [ints offs])) (h2 : σ.get c2 = some (.arr 3 0 [intV k])) :
    ACalls E 40 [strs l, .fn (.func 41) [] [.rp c1 0 0 0, .rp c2 0 0 0]] σ fun a s => a = entsV (entL o l) ∧ s = σ := by
  refine ACalls.enterA [3000005] Tryz.func40 rfl Tryz.ntmps40 Tryz.results40 hmE (by kernel_rfl) (by simp) fun hσ => ?_
  conv => arg 5; cbv
  have b1 := (hσ _ _ h1).1
  have b2 := (hσ _ _ h2).1
  simp
  refine loop_x hmE (by kernel_rfl) (· + 1) 0 (fun i : Nat => [(10, intV i), (5, .lg σ.next ((entL o (l.take i)).map entV))]) (fun i : Nat => σ.alloc (.log 44 (entL o (l.take i)).length)) (fun i : Nat => i ≤ l.length) (fun i => l.length - i) (by simp) (fun i hi => by simp [hσ, b1, b2]; omega) (by simp [entL]) (by simp [entL]) fun i hi => ?_
  simp
  refine ⟨fun h => ?_, fun h => ?_⟩
  · obtain ⟨a, ha⟩ := get_ex h
    have hs := entL_snoc (o := o) ha
    have h3 : (l.take i).length ≤ l.length := by simp; omega
    refine ⟨a, ha, ?_⟩
    have hD := ent1_c offs k a o i hk c1 c2 (σ.alloc (.log 44 (entL o (l.take i)).length)) (by rw [alloc_get, if_neg (by omega)]; exact h1) (by rw [alloc_get, if_neg (by omega)]; exact h2)
    simp at hD
    refine hD.mono ?_
    rintro r s ⟨rfl, rfl⟩
    have m1 : min i l.length = i := by omega
    have m2 : min (i + 1) l.length = i + 1 := by omega
    simp [hs, m1, m2]
    exact ⟨by omega, by omega, wrap_succ h (by omega), h, by omega⟩
  · rw [List.take_of_length_le h]
    exact Fin.eqv hσ (by simp) (by simp) (by simp)
theorem ix1_c (offs : List Int) (k : Nat) (m : M) (hb : m.data.length ≤ 1000000) (o : Int) (hk : offs[k]? = some o) (c : Nat) (σ : Store) (h1 : σ.get c = some (.arr 27 0 [ints offs])) :
    ACalls E 39 [intV k, memV m, .rp c 0 0 0] σ fun a s => a = entsV (entL o (defsO m.data)) ∧ s = σ := by
  have hD := Defs_p m.data hb
  have hdl := defsO_len m.data
  simp at hD
  refine ACalls.enterA [] Tryz.func39 rfl Tryz.ntmps39 Tryz.results39 hmE (by kernel_rfl) (by simp) fun hσ => ?_
  conv => arg 5; cbv
  have b1 := (hσ _ _ h1).1
  simp
  refine Pur.call hD ?_
  simp
  have hC := fun s g1 g2 => ents_c offs k (defsO m.data) (by omega) o hk c σ.next s g1 g2
  simp at hC h1
  refine (hC _ ?_ ?_).mono ?_
  · simp [h1, show ¬ c = σ.next by omega, show ¬ c = σ.next + 1 by omega]
  · simp
  rintro r s ⟨rfl, rfl⟩
  simp
  exact Fin.eqv hσ (by simp) (by simp) (by simp)
/-- The entries of the first k members. -/
def ixK (offs : List Int) (l : List M) (k : Nat) : List En := entsK (fun i => offs.getD i 0) (l.map M.data) k
theorem ixK_snoc {offs : List Int} {l : List M} {k : Nat} {m : M} {o : Int} (h : l[k]? = some m) (ho : offs[k]? = some o) : ixK offs l (k + 1) = ixK offs l k ++ entL o (defsO m.data) := by
  rw [ixK, entsK_succ]
  have e1 : (l.map M.data).getD k [] = m.data := by simp [List.getD, h]
  have e2 : offs.getD k 0 = o := by simp [List.getD, ho]
  simp only [e1, e2]
  rfl
theorem ixK_names (offs : List Int) (l : List M) (k : Nat) (hk : k ≤ l.length) : (ixK offs l k).map En.name = nmsD (l.take k) := by
  rw [ixK, entsK_names _ _ _ (by simpa using hk), nmsD, ← List.map_take]
theorem ixK_len (offs : List Int) (l : List M) (k : Nat) (hk : k ≤ l.length) : (ixK offs l k).length = (nmsD (l.take k)).length := by
  have := congrArg List.length (ixK_names offs l k hk)
  simpa using this
theorem index_c (offs : List Int) (l : List M) (hl : fewM l) (ho : offs.length = l.length) (c : Nat) (σ : Store) (h1 : σ.get c = some (.arr 27 0 [ints offs])) :
    ACalls E 38 [memsV l, .fn (.func 39) [] [.rp c 0 0 0]] σ fun a s => a = entsV (ixK offs l l.length) ∧ s = σ := by
  refine ACalls.enterA [3000005] Tryz.func38 rfl Tryz.ntmps38 Tryz.results38 hmE (by kernel_rfl) (by simp) fun hσ => ?_
  conv => arg 5; cbv
  have b1 := (hσ _ _ h1).1
  simp
  refine loop_x hmE (by kernel_rfl) (· + 1) 0 (fun i : Nat => [(10, intV i), (5, .lg σ.next ((ixK offs l i).map entV))]) (fun i : Nat => σ.alloc (.log 44 (ixK offs l i).length)) (fun i : Nat => i ≤ l.length) (fun i => l.length - i) (by simp) (fun i hi => by simp [hσ, b1]; omega) (by simp [ixK, entsK]) (by simp [ixK, entsK]) fun i hi => ?_
  simp
  refine ⟨fun h => ?_, fun h => ?_⟩
  · obtain ⟨a, ha⟩ := get_ex h
    obtain ⟨o, hok⟩ := get_ex (l := offs) (i := i) (by omega)
    have hs := ixK_snoc ha hok
    have hn := nmsD_le hl i
    have hil := ixK_len offs l i hi
    have hdl := (hl.2 a (List.mem_of_getElem? ha)).2.2.2.2.2
    have h2 := defsO_len a.data
    have hll := hl.1
    refine ⟨a, ha, ?_⟩
    have hD := fun s g1 => ix1_c offs i a (by omega) o hok c s g1
    simp at hD h1
    refine (hD _ ?_).mono ?_
    · simp [h1, show ¬ c = σ.next by omega, show ¬ c = σ.next + 1 by omega]
    rintro r s ⟨rfl, rfl⟩
    simp [hs]
    exact ⟨by omega, by omega, wrap_succ h (by omega), h, by omega⟩
  · obtain rfl : i = l.length := by omega
    exact Fin.eqv hσ (by simp) (by simp) (by simp)
end Go.Proofs.YtcjdagpadnahfaaGreatDoor
