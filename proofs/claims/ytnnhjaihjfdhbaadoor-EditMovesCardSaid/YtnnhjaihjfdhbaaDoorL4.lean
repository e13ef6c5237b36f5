/- The law EditInverse. No condition. -/
import Derived.Test.YtnnhjaihjfdhbaaDoorL2
set_option linter.unusedVariables false
set_option linter.unusedSimpArgs false
set_option linter.unnecessarySimpa false
namespace Go.Proofs.YtnnhjaihjfdhbaaDoor
open Go Go.AW
set_option maxRecDepth 100000
set_option maxHeartbeats 8000000

theorem get_ins_succ {l : List M} {k : Nat} {m : M} (h : k ≤ l.length) : (insL l k m)[k + 1]? = l[k]? := by
  simp [insL, List.getElem?_append, Nat.min_eq_left h, List.getElem?_drop]
  omega
theorem take_ins_succ {l : List M} {k : Nat} {m : M} (h : k ≤ l.length) : (insL l k m).take (k + 1) = l.take k ++ [m] := by
  simp [insL, List.take_append, Nat.min_eq_left h]
  exact List.take_of_length_le (by simp; omega)
theorem back_ins {l : List M} {i : Nat} {m x : M} (hi : i < l.length) (hx : l[i]? = some x) (hm : findI l m.name < 0) (h : findI (insL l i m) x.name = (i : Int) + 1) : replR l m (1, x.name) = (insL l i m, 0) := by
  obtain ⟨h1, h2, h3⟩ := findI_spec (i := i + 1) (by simpa using h)
  rw [take_ins_succ (Nat.le_of_lt hi)] at h2
  have hf : findI l x.name = i := findI_at hi (fun y hy => h2 y (by simp [hy])) (by
    have := List.getElem?_eq_getElem hi
    rw [this] at hx
    rw [Option.some.inj hx])
  simp [replR, placeI, hf, show ¬ 0 ≤ findI l m.name by omega]
theorem EditInverse_p (l : List M) (m : M) (p : Pl) : Pur E 5 [memsV l, memV m, plV p] (boolV true) := by
  obtain ⟨k, v⟩ := p
  refine Pur.enter [] Tryd.func5 rfl Tryd.ntmps5 Tryd.results5 hmE (by kernel_rfl) (by simp) (by simp) fun σ hσ => ?_
  conv => arg 5; cbv
  simp
  first | refine Pur.call (awake_p) ?_ | refine Pur.d (awake_p) ?_
  simp
  first | refine Pur.call (Few_p l) ?_ | refine Pur.d (Few_p l) ?_
  simp
  refine ⟨fun _ => Pur.call awake_p (by simp), fun hf => ⟨fun _ => Pur.call awake_p (by simp), fun hm => ⟨fun _ => Pur.call awake_p (by simp), fun hn => ⟨fun _ => Pur.call awake_p (by simp), fun hv => ?_⟩⟩⟩⟩
  have fe := fewB.few hf
  have hl := fe.l
  have h20 := fewB.len hf
  have hmd : m.data.length ≤ 1000000000 := by omega
  first | refine Pur.call (rFind_p l m.name hl) ?_ | refine Pur.d (rFind_p l m.name hl) ?_
  simp
  refine ⟨fun _ => Pur.call awake_p (by simp), fun hneg => ?_⟩
  first | refine Pur.call (forward_p (k, v)) ?_ | refine Pur.d (forward_p (k, v)) ?_
  simp
  first | refine Pur.call (Replace_p l m (k, v) fe hmd) ?_ | refine Pur.d (Replace_p l m (k, v) fe hmd) ?_
  simp
  intro h
  obtain ⟨b, i, hi, hr, hn', hcase⟩ := repl_ok h
  have hb : b = l := by
    rcases hcase with ⟨h1, _⟩ | ⟨_, h1, _⟩
    · omega
    · exact h1
  subst hb
  rw [hr]
  have fi := fewer_ins (k := i) fe (by omega) hmd
  have hfi := find_ins (m := m) hi hn'
  have hli := len_ins b i m
  have hdi := del_ins hi hn'
  have c4 := Delete_p (insL b i m) m.name fi
  rw [hdi] at c4
  have c5 := Same_refl b fe.1
  have c2 := Find_p (insL b i m) m.name fi.l
  rw [hfi] at c2
  first | refine Pur.call (c4) ?_ | refine Pur.d (c4) ?_
  simp
  first | refine Pur.call (c5) ?_ | refine Pur.d (c5) ?_
  simp
  first | refine Pur.call (c2) ?_ | refine Pur.d (c2) ?_
  simp
  have w1 : IntKind.i64.wrap ((i : Int) + 1) = (i : Int) + 1 := wrapI rfl (by omega) (by omega)
  simp [w1]
  intro h3
  have hib : i < b.length := by omega
  obtain ⟨x, hx⟩ := get_ex hib
  refine ⟨by omega, x, by rw [get_ins_succ hi, hx], ?_⟩
  have hge := findI_ge (insL b i m) x.name
  first | refine Pur.call (Find_p (insL b i m) x.name fi.l) ?_ | refine Pur.d (Find_p (insL b i m) x.name fi.l) ?_
  simp
  intro h4
  rw [w1] at h4
  simp [w1]
  refine ⟨by omega, x, by rw [get_ins_succ hi, hx], ?_⟩
  have c6 := Replace_p b m (1, x.name) fe hmd
  rw [back_ins hib hx hneg h4] at c6
  first | refine Pur.call (c6) ?_ | refine Pur.d (c6) ?_
  simp
  first | refine Pur.call (Same_refl (insL b i m) fi.1) ?_ | refine Pur.d (Same_refl (insL b i m) fi.1) ?_
  simp
end Go.Proofs.YtnnhjaihjfdhbaaDoor
