/- The law EditReplaces. No condition. -/
import Derived.Test.YtnnhjaihjfdhbaaDoorQ1
set_option linter.unusedVariables false
set_option linter.unusedSimpArgs false
set_option linter.unnecessarySimpa false
namespace Go.Proofs.YtnnhjaihjfdhbaaDoor
open Go Go.AW
set_option maxRecDepth 100000
set_option maxHeartbeats 8000000

theorem fewer_ins {l : List M} {m : M} (h : fewer l) (h20 : l.length ≤ 30) (hm : m.data.length ≤ 1000000000) {k : Nat} : fewer (insL l k m) :=
  ⟨few_ins h.1 h.2 hm k, by rw [len_ins_le]; omega⟩
where len_ins_le : (insL l k m).length = l.length + 1 := len_ins l k m
theorem Same_refl (l : List M) (h : few l) : Pur E 12 [memsV l, memsV l] (boolV true) := by
  have := SameMembers_p l l h.big.1 h.big.2
  simpa using this
theorem EditReplaces_p (l : List M) (m : M) (p : Pl) : Pur E 3 [memsV l, memV m, plV p] (boolV true) := by
  obtain ⟨k, v⟩ := p
  refine Pur.enter [] Tryd.func3 rfl Tryd.ntmps3 Tryd.results3 hmE (by kernel_rfl) (by simp) (by simp) fun σ hσ => ?_
  conv => arg 5; cbv
  simp
  first | refine Pur.call (awake_p) ?_ | refine Pur.d (awake_p) ?_
  simp
  first | refine Pur.call (Few_p l) ?_ | refine Pur.d (Few_p l) ?_
  simp
  refine ⟨fun _ => Pur.call awake_p (by simp), fun hf => ⟨fun _ => Pur.call awake_p (by simp), fun hm => ⟨fun _ => Pur.call awake_p (by simp), fun hn => ⟨fun _ => Pur.call awake_p (by simp), fun hv => ?_⟩⟩⟩⟩
  have fe := fewB.few hf
  have hl := fe.l
  have h20 := fewB.len hf
  have hmd : m.data.length ≤ 1000000000 := by omega
  first | refine Pur.call (forward_p (k, v)) ?_ | refine Pur.d (forward_p (k, v)) ?_
  simp
  first | refine Pur.call (Replace_p l m (k, v) fe hmd) ?_ | refine Pur.d (Replace_p l m (k, v) fe hmd) ?_
  simp
  refine ⟨fun h => ?_, fun h => ?_⟩
  · rw [repl_err h]
    first | refine Pur.call (Same_refl l fe.1) ?_ | refine Pur.d (Same_refl l fe.1) ?_
    simp
  · obtain ⟨b, i, hi, hr, hn', hcase⟩ := repl_ok h
    rw [hr]
    have fb : fewer b ∧ b.length ≤ 20 := by
      rcases hcase with ⟨_, _, rfl, _⟩ | ⟨_, rfl, _⟩
      · exact ⟨fe.erase i, by have := List.length_eraseIdx_le l i; omega⟩
      · exact ⟨fe, h20⟩
    have fi := fewer_ins (k := i) fb.1 (by omega) hmd
    have hfi := find_ins (m := m) hi hn'
    have hgi := get_ins (m := m) hi
    have hli := len_ins b i m
    have hdi := del_ins hi hn'
    first | refine Pur.call (Find_p l m.name hl) ?_ | refine Pur.d (Find_p l m.name hl) ?_
    simp
    have c2 := Find_p (insL b i m) m.name fi.l
    rw [hfi] at c2
    first | refine Pur.call (c2) ?_ | refine Pur.d (c2) ?_
    simp
    have hi' : ¬ (((insL b i m).length : Int) ≤ i) := by omega
    refine ⟨by omega, fun _ => ⟨m, hgi, ?_⟩⟩
    have c3 := SameMember_p m m (by omega)
    rw [beq_self_eq_true] at c3
    have c4 := Delete_p (insL b i m) m.name fi
    rw [hdi] at c4
    have c5 := Same_refl b fb.1.1
    rcases hcase with ⟨h1, h2, h3, h4⟩ | ⟨h1, h2, h3, h4⟩
    · have hlb : b.length + 1 = l.length := by rw [h3, List.length_eraseIdx, if_pos h4]; omega
      have hd : delR l m.name = (b, 0) := by simp [delR, h2, h3]
      have c6 := Delete_p l m.name fe
      rw [hd] at c6
      first | refine Pur.call (c3) ?_ | refine Pur.d (c3) ?_
      simp [h2, hli, hlb]
      first | refine Pur.call (c4) ?_ | refine Pur.d (c4) ?_
      simp [h2]
      first | refine Pur.call (c6) ?_ | refine Pur.d (c6) ?_
      simp
      first | refine Pur.call (c5) ?_ | refine Pur.d (c5) ?_
      simp
    · have h1' : ¬ 0 ≤ findI l m.name := by omega
      first | refine Pur.call (c3) ?_ | refine Pur.d (c3) ?_
      simp [h1, h1']
      subst h2
      first | refine Pur.call (c4) ?_ | refine Pur.d (c4) ?_
      simp [h1, h1']
      first | refine Pur.call (c5) ?_ | refine Pur.d (c5) ?_
      simp
end Go.Proofs.YtnnhjaihjfdhbaaDoor
