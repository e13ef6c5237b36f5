/- The law EditModel. No condition. -/
import Derived.Test.YtnnhjaihjfdhbaaDoorP4
set_option linter.unusedVariables false
set_option linter.unusedSimpArgs false
set_option linter.unnecessarySimpa false
namespace Go.Proofs.YtnnhjaihjfdhbaaDoor
open Go Go.AW
set_option maxRecDepth 100000
set_option maxHeartbeats 8000000

theorem few.big {l : List M} (h : few l) : l.length ≤ 9223372036854775807 ∧ ∀ m ∈ l, m.data.length ≤ 9223372036854775807 :=
  ⟨by have := h.1; omega, fun m hm => by have := h.2 m hm; omega⟩
theorem replR_few {l : List M} {m : M} {p : Pl} (h : fewer l) (hm : m.data.length ≤ 1000000000) : few (replR l m p).1 := by
  unfold replR
  split
  · exact h.1
  · split
    · exact few_ins (few_erase h.1 _) (h.erase _).2 hm _
    · exact few_ins h.1 h.2 hm _
theorem app_few {l : List M} {m : M} (h : fewer l) (hm : m.data.length ≤ 1000000000) : few (l ++ [m]) := by
  have := few_ins h.1 h.2 hm l.length
  simpa [insL] using this
theorem delR_few {l : List M} {w : W} (h : few l) : few (delR l w).1 := by
  unfold delR
  split
  · exact h
  · exact few_erase h _
theorem movR_few {l : List M} {w : W} {p : Pl} (h : fewer l) : few (movR l w p).1 := by
  unfold movR
  split
  · exact h.1
  · split
    · exact h.1
    · dsimp only
      split
      · exact h.1
      · have hlt := findI_lt (w := w) l
        refine few_ins (few_erase h.1 _) (h.erase _).2 ?_ _
        have hi : (findI l w).toNat < l.length := by omega
        rw [show l.getD (findI l w).toNat default = l[(findI l w).toNat] by simp [hi]]
        exact h.1.2 _ (List.getElem_mem _)
theorem EditModel_p (l : List M) (m : M) (w : W) (p : Pl) : Pur E 6 [memsV l, memV m, str w, plV p] (boolV true) := by
  obtain ⟨k, v⟩ := p
  refine Pur.enter [] Tryd.func6 rfl Tryd.ntmps6 Tryd.results6 hmE (by kernel_rfl) (by simp) (by simp) fun σ hσ => ?_
  conv => arg 5; cbv
  simp
  first | refine Pur.call awake_p ?_ | refine Pur.d awake_p ?_
  simp
  first | refine Pur.call (Few_p l) ?_ | refine Pur.d (Few_p l) ?_
  simp
  refine ⟨fun _ => Pur.call awake_p (by simp), fun hf => ⟨fun _ => Pur.call awake_p (by simp), fun hm => ⟨fun _ => Pur.call awake_p (by simp), fun hn => ⟨fun _ => Pur.call awake_p (by simp), fun hw => ⟨fun _ => Pur.call awake_p (by simp), fun hv => ?_⟩⟩⟩⟩⟩
  have fe := fewB.few hf
  have hl := fe.l
  have hmd : m.data.length ≤ 1000000000 := by omega
  first | refine Pur.call (forward_p (k, v)) ?_ | refine Pur.d (forward_p (k, v)) ?_
  simp
  first | refine Pur.call (Replace_p l m (k, v) fe hmd) ?_ | refine Pur.d (Replace_p l m (k, v) fe hmd) ?_
  simp
  first | refine Pur.call (rReplace_p l m (k, v) fe hmd) ?_ | refine Pur.d (rReplace_p l m (k, v) fe hmd) ?_
  simp
  have f1 := (replR_few (p := (k, v)) fe hmd).big
  first | refine Pur.call (SameMembers_p (replR l m (k, v)).1 (replR l m (k, v)).1 f1.1 f1.2) ?_ | refine Pur.d (SameMembers_p (replR l m (k, v)).1 (replR l m (k, v)).1 f1.1 f1.2) ?_
  simp
  have f2 := (app_few fe hmd).big
  have ca := Append_p l m fe hmd
  have cb := rAppend_p l m fe hmd
  generalize l ++ [m] = la at ca cb f2
  first | refine Pur.call (ca) ?_ | refine Pur.d (ca) ?_
  simp
  first | refine Pur.call (cb) ?_ | refine Pur.d (cb) ?_
  simp
  first | refine Pur.call (SameMembers_p la la f2.1 f2.2) ?_ | refine Pur.d (SameMembers_p la la f2.1 f2.2) ?_
  simp
  first | refine Pur.call (Delete_p l w fe) ?_ | refine Pur.d (Delete_p l w fe) ?_
  simp
  first | refine Pur.call (rDelete_p l w fe) ?_ | refine Pur.d (rDelete_p l w fe) ?_
  simp
  have f3 := (delR_few (w := w) fe.1).big
  first | refine Pur.call (SameMembers_p (delR l w).1 (delR l w).1 f3.1 f3.2) ?_ | refine Pur.d (SameMembers_p (delR l w).1 (delR l w).1 f3.1 f3.2) ?_
  simp
  first | refine Pur.call (forward_p (k, v)) ?_ | refine Pur.d (forward_p (k, v)) ?_
  simp
  first | refine Pur.call (Move_p l w (k, v) fe) ?_ | refine Pur.d (Move_p l w (k, v) fe) ?_
  simp
  first | refine Pur.call (rMove_p l w (k, v) fe) ?_ | refine Pur.d (rMove_p l w (k, v) fe) ?_
  simp
  have f4 := (movR_few (w := w) (p := (k, v)) fe).big
  first | refine Pur.call (SameMembers_p (movR l w (k, v)).1 (movR l w (k, v)).1 f4.1 f4.2) ?_ | refine Pur.d (SameMembers_p (movR l w (k, v)).1 (movR l w (k, v)).1 f4.1 f4.2) ?_
  simp
  first | refine Pur.call (Extract_p l w fe) ?_ | refine Pur.d (Extract_p l w fe) ?_
  simp
  first | refine Pur.call (rFind_p l w hl) ?_ | refine Pur.d (rFind_p l w hl) ?_
  simp
  have f5 : (l.map M.name).length ≤ 9223372036854775807 := by simp; omega
  have hge := findI_ge l w
  have cl := List_p l hl
  have cm := rList_p l hl
  generalize l.map M.name = nl at f5 cl cm
  refine ⟨fun h => ?_, fun h => ?_⟩
  · have h1 : findI l w = -1 := by omega
    have h2 : extR l w = ([], 10) := by simp [extR, h1]
    first | refine Pur.call (Find_p l w hl) ?_ | refine Pur.d (Find_p l w hl) ?_
    simp [h1, h2]
    first | refine Pur.call (cl) ?_ | refine Pur.d (cl) ?_
    simp
    first | refine Pur.call (cm) ?_ | refine Pur.d (cm) ?_
    simp
    first | refine Pur.call (Texts_p nl nl f5) ?_ | refine Pur.d (Texts_p nl nl f5) ?_
    simp
  · obtain ⟨i, hi⟩ := nat_of h
    have hlt := findI_lt (w := w) l
    rw [hi] at hlt ⊢
    have hil : i < l.length := by omega
    have h2 : extR l w = (l[i].data, 0) := by simp [extR, hi, hil]
    first | refine Pur.call (Find_p l w hl) ?_ | refine Pur.d (Find_p l w hl) ?_
    simp [hi, h2]
    refine ⟨l[i], by simp, ?_⟩
    first | refine Pur.call (Same_p l[i].data l[i].data (by have := fe.1.2 l[i] (List.getElem_mem hil); omega)) ?_ | refine Pur.d (Same_p l[i].data l[i].data (by have := fe.1.2 l[i] (List.getElem_mem hil); omega)) ?_
    simp
    first | refine Pur.call (cl) ?_ | refine Pur.d (cl) ?_
    simp
    first | refine Pur.call (cm) ?_ | refine Pur.d (cm) ?_
    simp
    first | refine Pur.call (Texts_p nl nl f5) ?_ | refine Pur.d (Texts_p nl nl f5) ?_
    simp
end Go.Proofs.YtnnhjaihjfdhbaaDoor
