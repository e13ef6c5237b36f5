/- Operations that write, make, address, cut and convert. No condition. -/
import Derived.Test.YtkbklfodaemkoaaDoorAw3
import Derived.Lib.AppendStr
import Derived.Laws.BytesArg
set_option linter.unusedVariables false
set_option linter.unusedSimpArgs false
set_option linter.unnecessarySimpa false
namespace Go.AW
open Go

theorem Up.value {E : Env} {Γ : Ctx} {w w' : World} {K : AV → Store → Prop} {s : Sem Value} {v : Value} (h : s.run E.P w = .ok v w') (hr : Res E Γ w K v w') :
    Up E Γ w K ((do pure (.value (← s)) : Sem Next).run E.P w) := by
  simp only [Sem.run_bind, h, Result.andThen_ok, Sem.run_pure, Up]
  exact hr

theorem Up.unit {E : Env} {Γ : Ctx} {w w' : World} {K : AV → Store → Prop} {s : Sem Unit} (h : s.run E.P w = .ok () w') (hr : Res E Γ w K undef w') :
    Up E Γ w K ((do s; pure .skip : Sem Next).run E.P w) := by
  simp only [Sem.run_bind, h, Result.andThen_ok, Sem.run_pure, Up]
  exact hr

/-! ### Cells of a value -/
/-- May it lie in memory? -/
def AV.ok : AV → Bool
  | .junk => false
  | .tup _ => false
  | _ => true

theorem VR.cells {Γ : Ctx} {w : World} {a : AV} {v : Value} (h : VR Γ w a v) (ha : a.ok = true) :
    a.cells.length = v.cells.size ∧ (∀ u ∈ v.cells, u.oneCell' = true) ∧ ∀ (j : Nat) (x : AV) (u : Value), a.cells[j]? = some x → v.cells[j]? = some u → VR Γ w x u := by
  cases h with
  | junk => simp [AV.ok] at ha
  | tup => simp [AV.ok] at ha
  | agg cs xs hs h1 h =>
    refine ⟨hs, ?_, h⟩
    intro u hu
    obtain ⟨j, hj, rfl⟩ := Array.getElem_of_mem hu
    exact h1 j _ (Array.getElem?_eq_getElem hj)
  | c v h =>
    have hc : v.cells = #[v] := by cases v <;> simp_all [Value.cells, Value.oneCell']
    refine ⟨by simp [AV.cells, hc], by simpa [hc] using h, ?_⟩
    intro j x u hx hu
    cases j with
    | zero => simp [AV.cells, hc] at hx hu; subst hx; subst hu; exact .c _ h
    | succ j => simp [AV.cells] at hx
  | nl a =>
    refine ⟨by simp [AV.cells, Value.cells], by simp [Value.cells, Value.oneCell'], ?_⟩
    intro j x u hx hu
    cases j with
    | zero => simp [AV.cells, Value.cells] at hx hu; subst hx; subst hu; exact .nl a
    | succ j => simp [AV.cells] at hx
  | ps es a cap b o us hc ha' hw h1 h =>
    refine ⟨by simp [AV.cells, Value.cells], by simp [Value.cells, Value.oneCell'], ?_⟩
    intro j x u hx hu
    cases j with
    | zero => simp [AV.cells, Value.cells] at hx hu; subst hx; subst hu; exact .ps es a cap b o us hc ha' hw h1 h
    | succ j => simp [AV.cells] at hx
  | fs l b cap hb hc hh =>
    refine ⟨by simp [AV.cells, Value.cells], by simp [Value.cells, Value.oneCell'], ?_⟩
    intro j x u hx hu
    cases j with
    | zero => simp [AV.cells, Value.cells] at hx hu; subst hx; subst hu; exact .fs l b cap hb hc hh
    | succ j => simp [AV.cells] at hx
  | pp cs b o us hb hw h1 h =>
    refine ⟨by simp [AV.cells, Value.cells], by simp [Value.cells, Value.oneCell'], ?_⟩
    intro j x u hx hu
    cases j with
    | zero => simp [AV.cells, Value.cells] at hx hu; subst hx; subst hu; exact .pp cs b o us hb hw h1 h
    | succ j => simp [AV.cells] at hx
  | rs i g off len a cap hi hl h =>
    refine ⟨by simp [AV.cells, Value.cells], by simp [Value.cells, Value.oneCell'], ?_⟩
    intro j x u hx hu
    cases j with
    | zero => simp [AV.cells, Value.cells] at hx hu; subst hx; subst hu; exact .rs i g off len a cap hi hl h
    | succ j => simp [AV.cells] at hx
  | rc i g off len cap a hi hl h =>
    refine ⟨by simp [AV.cells, Value.cells], by simp [Value.cells, Value.oneCell'], ?_⟩
    intro j x u hx hu
    cases j with
    | zero => simp [AV.cells, Value.cells] at hx hu; subst hx; subst hu; exact .rc i g off len cap a hi hl h
    | succ j => simp [AV.cells] at hx
  | lg i es v h1 h2 h3 =>
    cases h2 with
    | rs i g off len a cap hi hl h =>
      refine ⟨by simp [AV.cells, Value.cells], by simp [Value.cells, Value.oneCell'], ?_⟩
      intro j x u hx hu
      cases j with
      | zero => simp [AV.cells, Value.cells] at hx hu; subst hx; subst hu; exact .lg i es _ h1 (.rs i _ 0 _ a cap hi hl h) h3
      | succ j => simp [AV.cells] at hx
  | rp i g k off a hi h =>
    refine ⟨by simp [AV.cells, Value.cells], by simp [Value.cells, Value.oneCell'], ?_⟩
    intro j x u hx hu
    cases j with
    | zero => simp [AV.cells, Value.cells] at hx hu; subst hx; subst hu; exact .rp i g k off a hi h
    | succ j => simp [AV.cells] at hx
  | mp i r hi h =>
    refine ⟨by simp [AV.cells, Value.cells], by simp [Value.cells, Value.oneCell'], ?_⟩
    intro j x u hx hu
    cases j with
    | zero => simp [AV.cells, Value.cells] at hx hu; subst hx; subst hu; exact .mp i r hi h
    | succ j => simp [AV.cells] at hx
  | fn f first cap xs ys hx hy h h' =>
    refine ⟨by simp [AV.cells, Value.cells], by simp [Value.cells, Value.oneCell'], ?_⟩
    intro j x u hx' hu
    cases j with
    | zero => simp [AV.cells, Value.cells] at hx' hu; subst hx'; subst hu; exact .fn f first cap xs ys hx hy h h'
    | succ j => simp [AV.cells] at hx'
  | ifc t a v h =>
    refine ⟨by simp [AV.cells, Value.cells], by simp [Value.cells, Value.oneCell'], ?_⟩
    intro j x u hx hu
    cases j with
    | zero => simp [AV.cells, Value.cells] at hx hu; subst hx; subst hu; exact .ifc t a v h
    | succ j => simp [AV.cells] at hx

/-! ### A store -/
/-- An element some of whose cells are put. -/
def AV.put (e : AV) (off : Nat) (v : AV) : Option AV :=
  match e, v with
  | .agg cs, v => if off + v.cells.length ≤ cs.length then some (.agg (cs.take off ++ v.cells ++ cs.drop (off + v.cells.length))) else none
  | _, .agg _ => none
  | _, v => if off = 0 then some v else none

theorem AV.put_cells {e v e' : AV} {off : Nat} (h : e.put off v = some e') : off + v.cells.length ≤ e.cells.length ∧ e'.cells = e.cells.take off ++ v.cells ++ e.cells.drop (off + v.cells.length) := by
  unfold AV.put at h
  split at h
  · split at h
    · rename_i hle; cases h; exact ⟨hle, rfl⟩
    · cases h
  · cases h
  · rename_i h1 h2
    split at h
    · rename_i h0; cases h
      have hv : v.cells = [v] := by cases v <;> simp_all [AV.cells]
      have he : e.cells = [e] := by cases e <;> simp_all [AV.cells]
      subst h0
      simp [hv, he]
    · cases h

def aStore (E : Env) (t : TypeId) (x v : AV) (σ : Store) (K : Store → Prop) : Prop :=
  match x with
  | .rp i g k off => match σ.get i with
    | some (.arr T g' es) => g = g' ∧ v.ok = true ∧ tsz E.P t ≠ 0 ∧ tsz E.P t = v.cells.length ∧ match (es[k]?).bind fun e => e.put off v with
      | some e' => K (σ.set i (.arr T g' (es.set k e')))
      | none => False
    | _ => False
  | _ => False

theorem splice_get {α : Type} (l vs : List α) (A m : Nat) (h : A + vs.length ≤ l.length) :
    (l.take A ++ vs ++ l.drop (A + vs.length))[m]? = if m < A then l[m]? else if m < A + vs.length then vs[m - A]? else l[m]? := by
  have hA : (l.take A).length = A := by rw [List.length_take]; omega
  by_cases h1 : m < A
  · rw [if_pos h1, List.append_assoc, List.getElem?_append_left (by omega), List.getElem?_take, if_pos h1]
  · rw [if_neg h1]
    by_cases h2 : m < A + vs.length
    · rw [if_pos h2, List.append_assoc, List.getElem?_append_right (by omega), hA, List.getElem?_append_left (by omega)]
    · rw [if_neg h2, List.getElem?_append_right (by simp; omega), List.getElem?_drop]
      congr 1
      simp
      omega

theorem run_storeCells_free (P : Program) (g o : Nat) (t : TypeId) (fz : Nat × Nat) : ∀ (vs : List Value) (i : Nat) (cur : Array Value) (w : World), w.heap[g]? = some (.cells cur t fz) → (fz.1 = fz.2 ∨ cur.size ≤ fz.1) →
    o + i + vs.length ≤ cur.size → (∀ v ∈ vs, v.oneCell' = true) →
    (storeCells ⟨g, o, none⟩ vs i).run P w = .ok () (w.setRow g (cur.toList.take (o + i) ++ vs ++ cur.toList.drop (o + i + vs.length)).toArray)
  | [], i, cur, w, hg, _, _, _ => by
    simp only [storeCells, List.append_nil, List.length_nil, Nat.add_zero, List.take_append_drop, Array.toArray_toList]
    rw [setRow_self w g cur t fz hg]
    rfl
  | v :: rest, i, cur, w, hg, hfz, hl, h1 => by
    have hi : o + i < cur.size := by simp at hl; omega
    have hcell : w.cell? ⟨g, o + i, none⟩ = some cur[o + i] := by simp [World.cell?, hg, hi]
    have hfro : w.frozen? ⟨g, o + i, none⟩ = false := by
      obtain ⟨lo, hi'⟩ := fz
      simp only [World.frozen?, hg, Bool.and_eq_false_iff, decide_eq_false_iff_not]
      simp only at hfz
      omega
    have hst : (store ((⟨g, o, none⟩ : Addr).add i) v).run P w = .ok () (w.setRow g (cur.setIfInBounds (o + i) v)) := by
      rw [addr_add, run_store P w _ v _ (h1 v (by simp)), hcell]
      simp [hfro, setCell_eq_setRow w g (o + i) cur t fz v hg]
    have ih := run_storeCells_free P g o t fz rest (i + 1) (cur.setIfInBounds (o + i) v) (w.setRow g (cur.setIfInBounds (o + i) v)) (setRow_heap w g cur _ t _ hg) (by simpa using hfz) (by simp at hl ⊢; omega)
      (fun x hx => h1 x (by simp [hx]))
    simp only [storeCells, Sem.run_bind, hst, Result.andThen_ok, ih, setRow_setRow]
    congr 3
    have e := list_seg_step cur.toList (o + i) v rest (by simp at hl ⊢; omega)
    simpa [Array.toList_setIfInBounds, Nat.add_assoc] using e

theorem aStore_ok {E : Env} {Γ : Ctx} {σ : Store} {w : World} {t : TypeId} {x v : AV} {xv vv : Value} {K : AV → Store → Prop} (hr : R E Γ σ w) (hx : VR Γ w x xv) (hv : VR Γ w v vv)
    (h : aStore E t x v σ fun σ' => K (.tup []) σ') : Up E Γ w K ((do Instr.storeAt t xv vv; pure .skip : Sem Next).run E.P w) := by
  unfold aStore at h
  split at h
  · rename_i i g k off
    split at h
    · rename_i T g' es hi
      obtain ⟨rfl, hok, hnz, hsz, h⟩ := h
      split at h
      · rename_i e' hput
        cases hk : es[k]? with
        | none => simp [hk] at hput
        | some e =>
          simp only [hk, Option.bind_some] at hput
          obtain ⟨l, b, hl, hb, hgen, rfl, _⟩ := hr.rp_cells hx hi hk
          obtain ⟨c1, c2, c3⟩ := hv.cells hok
          obtain ⟨p1, p2⟩ := AV.put_cells hput
          obtain ⟨l', hl', ho, hlt⟩ := hr.loc hi
          have hll : l' = l := by rw [hl] at hl'; exact (Option.some.inj hl').symm
          subst hll
          simp only [ObjRel, hb] at ho
          obtain ⟨o1, o2, o3, o4, o5, xs, fr, q1, q2, q3, q4⟩ := ho
          have hel : e.cells.length = l'.sz := o3 e (List.mem_of_getElem? hk)
          have hkl : k < es.length := (List.getElem?_eq_some_iff.1 hk).1
          have hspace : k * l'.sz + l'.sz ≤ xs.size := by
            rw [q3, ← Nat.succ_mul]; exact Nat.mul_le_mul_right _ (by omega)
          have hvl : vv.cells.toList.length = v.cells.length := by simp [c1]
          have hst := run_storeCells_free E.P b (k * l'.sz + off) T fr vv.cells.toList 0 xs w q1 (q2.imp id And.left) (by rw [hvl]; omega) (fun u hu => c2 u (by simpa using hu))
          simp only [Nat.add_zero, hvl] at hst
          have hsv : (storeVar t ⟨b, k * l'.sz + off, none⟩ vv).run E.P w = .ok () (w.setRow b (xs.toList.take (k * l'.sz + off) ++ vv.cells.toList ++ xs.toList.drop (k * l'.sz + off + v.cells.length)).toArray) := by
            have hs : (sizeOf t).run E.P w = .ok (tsz E.P t) w := run_tsz hnz w
            simp [storeVar, hs, hsz, c1, hst]
          refine Up.unit (w' := w.setRow b (xs.toList.take (k * l'.sz + off) ++ vv.cells.toList ++ xs.toList.drop (k * l'.sz + off + v.cells.length)).toArray) (by simpa [Instr.storeAt, Instr.sureAddr] using hsv) ?_
          have hg : w.grownBy (w.setRow b (xs.toList.take (k * l'.sz + off) ++ vv.cells.toList ++ xs.toList.drop (k * l'.sz + off + v.cells.length)).toArray) l'.blk :=
            ⟨rfl, rfl, rfl, by simp, fun j _ hj => setRow_other w b j _ (fun e => hj (by rw [hb, e]))⟩
          have key : ∀ (hx : ExtN Γ.next Γ w (Γ.set i l') (w.setRow b (xs.toList.take (k * l'.sz + off) ++ vv.cells.toList ++ xs.toList.drop (k * l'.sz + off + v.cells.length)).toArray)),
              ObjRel E.P (Γ.set i l') (w.setRow b (xs.toList.take (k * l'.sz + off) ++ vv.cells.toList ++ xs.toList.drop (k * l'.sz + off + v.cells.length)).toArray) (.arr T g (es.set k e')) l' := by
            intro hx
            have he' : e'.cells.length = l'.sz := by
              rw [p2]; simp; omega
            simp only [ObjRel, hb]
            refine ⟨o1, o2, ?_, by simpa using o4, o5, _, fr, setRow_heap w b xs _ T fr q1, ?_, ?_, ?_⟩
            · intro e2 he2
              rcases List.mem_or_eq_of_mem_set he2 with h' | rfl
              · exact o3 e2 h'
              · exact he'
            · rcases q2 with q2 | q2
              · exact .inl q2
              · right; simp; omega
            · simp; omega
            · intro k2 e2 j x2 hk2 hj2
              have hvl' : vv.cells.toList.length = v.cells.length := hvl
              simp only [List.getElem?_toArray]
              have hsp := splice_get xs.toList vv.cells.toList (k * l'.sz + off) (k2 * l'.sz + j) (by simp [hvl']; omega)
              rw [hvl'] at hsp
              rw [hsp]
              have hjl : j < l'.sz := by
                have h2 := (List.getElem?_eq_some_iff.1 hj2).1
                have hm : e2 ∈ es.set k e' := List.mem_of_getElem? hk2
                rcases List.mem_or_eq_of_mem_set hm with h' | rfl
                · rw [o3 e2 h'] at h2; exact h2
                · rw [he'] at h2; exact h2
              by_cases hkk : k2 = k
              · subst hkk
                rw [List.getElem?_set_self hkl] at hk2
                cases hk2
                rw [p2, splice_get e.cells v.cells off j p1] at hj2
                by_cases c1' : j < off
                · rw [if_pos c1'] at hj2
                  rw [if_pos (by omega)]
                  obtain ⟨u, u1, u2, u3⟩ := q4 k2 e j x2 hk hj2
                  exact ⟨u, by simpa using u1, u2, u3.ext hx⟩
                · rw [if_neg c1'] at hj2
                  rw [if_neg (by omega)]
                  by_cases c2' : j < off + v.cells.length
                  · rw [if_pos c2'] at hj2
                    rw [if_pos (by omega), show k2 * l'.sz + j - (k2 * l'.sz + off) = j - off by omega]
                    have hlt2 : j - off < vv.cells.size := by rw [← c1]; omega
                    refine ⟨vv.cells[j - off], by simp [hlt2], c2 _ (Array.getElem_mem hlt2), ?_⟩
                    exact (c3 (j - off) x2 _ hj2 (Array.getElem?_eq_getElem hlt2)).ext hx
                  · rw [if_neg c2'] at hj2
                    rw [if_neg (by omega)]
                    obtain ⟨u, u1, u2, u3⟩ := q4 k2 e j x2 hk hj2
                    exact ⟨u, by simpa using u1, u2, u3.ext hx⟩
              · rw [List.getElem?_set_ne (fun e => hkk e.symm)] at hk2
                obtain ⟨u, u1, u2, u3⟩ := q4 k2 e2 j x2 hk2 hj2
                have hne : k2 * l'.sz + j < k * l'.sz + off ∨ k * l'.sz + off + v.cells.length ≤ k2 * l'.sz + j := by
                  rcases Nat.lt_or_gt_of_ne hkk with h' | h'
                  · left
                    have : (k2 + 1) * l'.sz ≤ k * l'.sz := Nat.mul_le_mul_right _ h'
                    rw [Nat.succ_mul] at this
                    omega
                  · right
                    have : (k + 1) * l'.sz ≤ k2 * l'.sz := Nat.mul_le_mul_right _ h'
                    rw [Nat.succ_mul] at this
                    omega
                rcases hne with h' | h'
                · rw [if_pos h']; exact ⟨u, by simpa using u1, u2, u3.ext hx⟩
                · rw [if_neg (by omega), if_neg (by omega)]; exact ⟨u, by simpa using u1, u2, u3.ext hx⟩
          obtain ⟨hx', hR⟩ := hr.upd hi hl hg (.inl rfl) (.inl rfl) (fun b m _ hm => by rw [hr.lims _ _ _ hi hl] at hm; cases hm) (o' := .arr T g (es.set k e')) ((hr.lims _ _ _ hi hl).trans rfl) key
          exact ⟨_, _, _, hx', hR, VR.undef_ _ _, h⟩
      · exact h.elim
    · exact h.elim
  · exact h.elim
end Go.AW
