/- The edits of the program: lists that are written in place. No condition. -/
import Derived.Test.YtnnhjaihjfdhbaaDoorP2
import Derived.Test.YtnnhjaihjfdhbaaDoorAw21
set_option linter.unusedVariables false
set_option linter.unusedSimpArgs false
set_option linter.unnecessarySimpa false
namespace Go.Proofs.YtnnhjaihjfdhbaaDoor
open Go Go.AW
set_option maxRecDepth 100000
set_option maxHeartbeats 8000000

theorem AExt.mono {E : Env} {k : FuncId} {args : List AV} {σ : Store} {Q Q' : AV → Store → Prop} (h : AExt E k args σ Q) (hq : ∀ a s, Q a s → Q' a s) : AExt E k args σ Q' := by
  intro Γ w vs hr hv
  obtain ⟨v, w', h1, Γ', a, s, h2, h3, h4, h5⟩ := h Γ w vs hr hv
  exact ⟨v, w', h1, Γ', a, s, h2, h3, h4, hq _ _ h5⟩
/-- A copy that the caller may write. -/
theorem clone_own (l : List M) (hl : few l) (σ : Store) : ACalls E 30 [memsV l] σ fun a s => a = .rs σ.next l.length 0 l.length ∧ s = σ.alloc (.arr 25 l.length (l.map memV)) := by
  refine ACalls.enterA [4000003] Tryd.func30 rfl Tryd.ntmps30 Tryd.results30 hmE (by kernel_rfl) (by simp) fun hσ => ?_
  conv => arg 5; cbv
  simp
  refine loop_x hmE (by kernel_rfl) (· + 1) 0 (fun i : Nat => [(8, intV i), (3, .rs σ.next i 0 i)]) (fun i : Nat => σ.alloc (.arr 25 i ((l.map memV).take i))) (fun i : Nat => i ≤ l.length) (fun i => l.length - i) (by simp) (fun i hi => by simp [hσ]; exact hσ.alloc_arr (by simp)) (by simp) (by simp) fun i hi => ?_
  have h1 := hl.1
  simp [Nat.min_eq_left hi]
  refine ⟨fun h => ?_, fun h => ?_⟩
  · obtain ⟨a, ha⟩ := get_ex h
    refine ⟨a, ha, ?_⟩
    refine Pur.call (cloned_p a (hl.2 a (List.mem_of_getElem? ha))) ?_
    simp [Nat.min_eq_left hi]
    have hs : List.take i (l.map memV) ++ [.agg [.c (.string (bs a.name)), .c (.int .i64 a.t), .c (.int .i64 a.u), .c (.int .i64 a.g), .c (.int .i64 a.m), .ps (List.map byteV a.data)]] = List.take (i + 1) (l.map memV) := snoc_mem ha
    exact ⟨by omega, by omega, by simp [hs], wrap_succ h (by omega), by omega, by omega⟩
  · have hil : i = l.length := by omega
    subst hil
    refine Fin.same (by simp) ⟨rfl, ?_⟩
    rw [List.take_of_length_le (by simp)]
/-- What Insert and Delete hand back: a row of its own, old or new. -/
def InPl (σ : Store) (o : Nat) (l : List M) (a : AV) (s : Store) : Prop :=
  ∃ o' g', a = .rs o' g' 0 l.length ∧ s.get o' = some (.arr 25 g' (l.map memV)) ∧ (o' = o ∨ o' = σ.next) ∧ σ.next ≤ s.next ∧ ∀ j, j < σ.next → j ≠ o → s.get j = σ.get j
theorem wrapI {x y : Int} (e : x = y) (h1 : -9223372036854775808 ≤ y) (h2 : y ≤ 9223372036854775807) : IntKind.i64.wrap x = y := by subst e; exact wrap64_id h1 h2
theorem ins_list {α : Type} (L R Z : List α) (x : α) (hz : Z.length = R.length + 1) :
    List.take (L.length + 1) (L ++ x :: List.drop (L.length + 1) (L ++ Z)) ++ (R ++ List.drop (L.length + 1 + R.length) (L ++ x :: List.drop (L.length + 1) (L ++ Z))) = L ++ x :: R := by
  have e1 : L ++ x :: List.drop (L.length + 1) (L ++ Z) = (L ++ [x]) ++ List.drop (L.length + 1) (L ++ Z) := by simp
  have hd : (List.drop (L.length + 1) (L ++ Z)).length = R.length := by simp; omega
  rw [e1, List.take_left' (by simp), List.drop_of_length_le (l := (L ++ [x]) ++ List.drop (L.length + 1) (L ++ Z)) (by simp; omega)]
  simp
theorem ins_list2 {α : Type} (L R : List α) (x : α) (hr : R ≠ []) :
    List.take L.length (List.take (L.length + 1) (L ++ R) ++ (R ++ List.drop (L.length + 1 + R.length) (L ++ R))) ++ x :: List.drop (L.length + 1) (List.take (L.length + 1) (L ++ R) ++ (R ++ List.drop (L.length + 1 + R.length) (L ++ R))) = L ++ x :: R := by
  cases R with
  | nil => exact absurd rfl hr
  | cons y R =>
    have e1 : L ++ y :: R = (L ++ [y]) ++ R := by simp
    rw [List.drop_of_length_le (l := L ++ y :: R) (by simp), e1, List.take_left' (l₁ := L ++ [y]) (by simp), List.append_nil]
    have e2 : L ++ [y] ++ y :: R = (L ++ [y]) ++ y :: R := rfl
    rw [List.drop_left' (l₁ := L ++ [y]) (by simp), List.append_assoc, List.take_left' rfl]
theorem Fin.rc {n : Nat} {σ : Store} {i g off len cap : Nat} {Q : AV → Store → Prop} (hn : n ≤ σ.next) (h : Q (.rs i g off len) σ) : AW.Fin n σ (.rc i g off len cap) Q :=
  ⟨.rs i g off len, σ, ⟨hn, Nat.le_refl _, fun _ _ h => h, .inl rfl⟩, .rc _ _ _ _ _ _ (.refl _), .inl rfl, h⟩
/-- slices.Insert of one member into a row of its own. -/
theorem Insert_c (l r : List M) (m : M) (hl : few (l ++ r)) (σ : Store) (o g : Nat) (ho : σ.get o = some (.arr 25 g ((l ++ r).map memV))) :
    ACalls E 33 [.rs o g 0 (l.length + r.length), intV l.length, memsV [m]] σ (InPl σ o (l ++ m :: r)) := by
  refine ACalls.caps fun c hc => ?_
  have h1 := hl.1
  simp only [List.length_append] at h1
  have w1 : IntKind.i64.wrap (↑l.length + ↑r.length + 1) = ↑l.length + ↑r.length + 1 := wrapI rfl (by omega) (by omega)
  have w2 : IntKind.i64.wrap (↑l.length + ↑r.length + 1 - ↑l.length) = ↑r.length + 1 := wrapI (by omega) (by omega) (by omega)
  have w3 : IntKind.i64.wrap (↑l.length + 1) = ↑l.length + 1 := wrapI (by omega) (by omega) (by omega)
  refine ACalls.enterA [] Tryd.func33 rfl Tryd.ntmps33 Tryd.results33 hmE (by kernel_rfl) (by simp) fun hσ => ?_
  conv => arg 5; cbv
  have hos := (hσ _ _ ho).1
  have hne : ¬ o = σ.next := by omega
  simp only [List.map_append] at ho
  by_cases hr0 : r = []
  · subst hr0
    simp at hc
    simp [ho, hc]
    refine ⟨by simp at h1; omega, by simp at h1; omega, Fin.same (by simp) ⟨o, g + 1, by simp, by simp, .inl rfl, by simp, fun j hj hjo => by simp [hjo]⟩⟩
  · have hr1 : 0 < r.length := List.length_pos_iff.2 hr0
    have t1 : ((l.length : Int) + (r.length + 1)).toNat - l.length = r.length + 1 := by omega
    have t2 : ((l.length : Int) + r.length).toNat - l.length = r.length := by omega
    have t3 : ((l.length : Int) + (r.length + 1)).toNat - (l.length + 1) = r.length := by omega
    have t4 : min 1 (r.length + 1) = 1 := by omega
    have t5 : max ((l.length : Int) + r.length + 1) 0 = l.length + r.length + 1 := by omega
    have t6 : ((l.length : Int) + r.length + 1).toNat - (l.length + 1) = r.length := by omega
    have t7 : ((l.length : Int) + r.length + 1).toNat - l.length = r.length + 1 := by omega
    have hcal : callable Tryd.prog 42 = false := by kernel_rfl
    by_cases hcap : c < l.length + r.length + 1
    · have hcI : (c : Int) < ↑l.length + ↑r.length + 1 := by omega
      simp [ho, w1, w2, w3, hr0, hcI, hne, t1, t2, t3, t4]
      refine ⟨by omega, by omega, fun h => by omega, fun _ => ⟨by omega, by omega, by omega, by omega, by omega, by omega, by omega, by omega, by omega, ?_⟩⟩
      have hi := ins_list (l.map memV) (r.map memV) (List.replicate (r.length + 1) (memV ⟨[], 0, 0, 0, 0, []⟩)) (memV m) (by simp)
      refine Fin.same (by simp) ⟨σ.next, 0, by simp, ?_, .inr rfl, by simp, fun j hj hjo => by simp; omega⟩
      simp
      simpa using ins_list (l.map memV) (r.map memV) (List.replicate (r.length + 1) _) (memV m) (by simp)
    · have hcI : ¬ (c : Int) < ↑l.length + ↑r.length + 1 := by omega
      simp [ho, w1, w2, w3, hr0, hcI, hne, t1, t2, t3, t4, t5, t6, t7, hcal]
      refine ⟨by omega, by omega, fun h => by omega, fun _ => ⟨by omega, by omega, by omega, by omega, by omega, ?_⟩⟩
      refine AExt.mono (overlaps_no (E := E) (k := 42) (tS := 22) (tR := 4) (e := 25) (row := l.map memV ++ r.map memV) Tryd.func42 (by kernel_rfl) (by kernel_rfl) (by kernel_rfl) (by kernel_rfl) (by simp) (by simp) ho (by simp) rfl) ?_
      rintro a s ⟨rfl, rfl⟩
      simp [ho, w1, w2, w3, hr0, hcI, hne, t1, t2, t3, t4, t5, t6, t7, hcal]
      refine ⟨by omega, by omega, by omega, by omega, by omega, by omega, by omega, by omega, by omega, ?_⟩
      refine Fin.rc (by simp) ⟨o, g, by simp; omega, ?_, .inl rfl, by simp, fun j hj hjo => by simp [hjo]⟩
      simp
      simpa using ins_list2 (l.map memV) (r.map memV) (memV m) (by simpa using hr0)
/-- slices.Delete of one member out of a row of its own. -/
theorem Delete_s (l r : List M) (m : M) (hl : few (l ++ m :: r)) (σ : Store) (o g : Nat) (ho : σ.get o = some (.arr 25 g ((l ++ m :: r).map memV))) :
    ACalls E 36 [.rs o g 0 (l.length + (r.length + 1)), intV l.length, intV (l.length + 1)] σ fun a s => a = .rs o g 0 (l.length + r.length) ∧ s = σ.set o (.arr 25 g ((l ++ r).map memV)) := by
  suffices hz : ACalls E 36 [.rs o g 0 (l.length + (r.length + 1)), intV l.length, intV (l.length + 1)] σ fun a s => ∃ z, a = .rs o g 0 (l.length + r.length) ∧ s = σ.set o (.arr 25 g ((l ++ r).map memV ++ z)) by
    refine ACalls.trim hz ?_
    rintro a s ⟨z, rfl, rfl⟩
    refine ⟨o, 25, g, (l ++ r).map memV ++ z, l.length + r.length, by simp, rfl, ?_⟩
    rw [set_set, List.take_left' (by simp)]
  have h1 := hl.1
  simp only [List.length_append, List.length_cons] at h1
  refine ACalls.enterA [] Tryd.func36 rfl Tryd.ntmps36 Tryd.results36 hmE (by kernel_rfl) (by simp) fun hσ => ?_
  conv => arg 5; cbv
  have hos := (hσ _ _ ho).1
  simp only [List.map_append, List.map_cons] at ho
  have d1 : ((l.length : Int) + (r.length + 1)).toNat - (l.length + 1) = r.length := by omega
  have d3 : l.length + 1 + r.length ≤ l.length + (r.length + 1) := by omega
  have d4 : ((l.length : Int) + r.length).toNat = l.length + r.length := by omega
  have d5 : min r.length (l.length + (r.length + 1) - (l.length + 1)) = r.length := by omega
  simp [ho, d1, d3, d4, d5]
  refine ⟨by omega, by omega, fun h => by omega, fun _ => ?_⟩
  repeat' (first | exact Fin.same (by simp) ⟨rfl, _, rfl⟩ | omega | refine ⟨?_, ?_⟩)
/-- What a caller may hand back of a row of its own. -/
theorem Fin.row {σ0 σ : Store} {o g n : Nat} {T : TypeId} {es : List AV} {Q : AV → Store → Prop} {F : AV → AV} (hσ : StoreBel σ0) (hb : Below σ0 σ) (ho : σ.get o = some (.arr T g es)) (h0 : σ0.next ≤ o) (hn : n ≤ es.length)
    (hF : ∀ a b, SR σ σ0 a b → SR σ σ0 (F a) (F b)) (hB : Bel σ0.next (F (.ps (es.take n)))) (h : Q (F (.ps (es.take n))) σ0) : AW.Fin σ0.next σ (F (.rs o g 0 n)) Q := by
  refine Fin.back hσ hb.1 (fun i x hx => by rw [hb.2 i (hσ i x hx).1]; exact hx) (hF _ _ (SR.row ho ?_ (by omega) (by simp))) hB h
  cases hg : σ0.get o with
  | none => rfl
  | some x => have := (hσ o x hg).1; omega
theorem SR.pair {σ σ2 : Store} {a b : AV} (c : Value) (h : SR σ σ2 a b) : SR σ σ2 (.tup [a, .c c]) (.tup [b, .c c]) := by
  refine .tup _ _ rfl fun j x y hx hy => ?_
  match j, hx, hy with
  | 0, hx, hy => cases hx; cases hy; exact h
  | 1, hx, hy => cases hx; cases hy; exact .refl _
  | j + 2, hx, hy => simp at hx
theorem Delete_p (l : List M) (w : W) (hl : fewer l) : Pur E 15 [memsV l, str w] (resV (delR l w)) := by
  intro σ
  refine ACalls.enterA [] Tryd.func15 rfl Tryd.ntmps15 Tryd.results15 hmE (by kernel_rfl) (by simp) fun hσ => ?_
  conv => arg 5; cbv
  simp
  refine (clone_own l hl.1 σ).mono ?_
  rintro a s ⟨rfl, rfl⟩
  simp
  refine Pur.call (Find_p l w hl.l) ?_
  simp
  refine ⟨fun h => ?_, fun h => ?_⟩
  · refine Fin.row (F := fun a => .tup [a, .c (.int .i64 10)]) (T := 25) (es := l.map memV) hσ (by simp) (by simp) (Nat.le_refl _) (by simp) (fun a b h => SR.pair _ h) (by simp) ⟨by simp [delR, h], rfl⟩
  · obtain ⟨i, hi⟩ := nat_of h
    have hlt := findI_lt (w := w) l
    rw [hi] at hlt ⊢
    have hil : i < l.length := by omega
    obtain ⟨m, r, l', hlr, hlen⟩ : ∃ m r l', l = l' ++ m :: r ∧ l'.length = i := ⟨l[i], l.drop (i + 1), l.take i, by simp, by simp; omega⟩
    subst hlr
    subst hlen
    have h1 := hl.1.1
    simp at h1
    have e1 : IntKind.i64.wrap ((l'.length : Int) + 1) = (l'.length : Int) + 1 := wrapI rfl (by omega) (by omega)
    rw [e1]
    have hd := Delete_s l' r m hl.1 (σ.alloc (.arr 25 (l' ++ m :: r).length ((l' ++ m :: r).map memV))) σ.next (l' ++ m :: r).length (by simp)
    simp at hd
    simp
    refine hd.mono ?_
    rintro a s ⟨rfl, rfl⟩
    simp
    refine Fin.row (F := fun a => .tup [a, .c (.int .i64 0)]) (T := 25) (es := (l' ++ r).map memV) (g := l'.length + (r.length + 1)) hσ (by simp) (by simp) (Nat.le_refl _) (by simp) (fun a b h => SR.pair _ h) ?_ ⟨?_, rfl⟩
    · simp [or_imp, forall_and]
    · simp [delR, hi, List.eraseIdx_append_of_length_le]
/-- The same, the list to be written. -/
theorem Delete_own (l : List M) (w : W) (hl : fewer l) (σ : Store) : ACalls E 15 [memsV l, str w] σ fun a s => ∃ g, a = .tup [.rs σ.next g 0 (delR l w).1.length, intV (delR l w).2] ∧ s = σ.alloc (.arr 25 g ((delR l w).1.map memV)) := by
  refine ACalls.enterA [] Tryd.func15 rfl Tryd.ntmps15 Tryd.results15 hmE (by kernel_rfl) (by simp) fun hσ => ?_
  conv => arg 5; cbv
  simp
  refine (clone_own l hl.1 σ).mono ?_
  rintro a s ⟨rfl, rfl⟩
  simp
  refine Pur.call (Find_p l w hl.l) ?_
  simp
  refine ⟨fun h => ?_, fun h => ?_⟩
  · exact Fin.same (by simp) ⟨l.length, by simp [delR, h], by simp [delR, h]⟩
  · obtain ⟨i, hi⟩ := nat_of h
    have hlt := findI_lt (w := w) l
    rw [hi] at hlt ⊢
    have hil : i < l.length := by omega
    obtain ⟨m, r, l', hlr, hlen⟩ : ∃ m r l', l = l' ++ m :: r ∧ l'.length = i := ⟨l[i], l.drop (i + 1), l.take i, by simp, by simp; omega⟩
    subst hlr
    subst hlen
    have h1 := hl.1.1
    simp at h1
    have e1 : IntKind.i64.wrap ((l'.length : Int) + 1) = (l'.length : Int) + 1 := wrapI rfl (by omega) (by omega)
    rw [e1]
    have hd := Delete_s l' r m hl.1 (σ.alloc (.arr 25 (l' ++ m :: r).length ((l' ++ m :: r).map memV))) σ.next (l' ++ m :: r).length (by simp)
    simp at hd
    simp
    refine hd.mono ?_
    rintro a s ⟨rfl, rfl⟩
    simp
    have hd' : delR (l' ++ m :: r) w = (l' ++ r, 0) := by simp [delR, hi, List.eraseIdx_append_of_length_le]
    exact Fin.same (by simp) ⟨l'.length + (r.length + 1), by simp [hd'], by simp [hd']⟩
/-- What may be read of a list: a row of its own. -/
theorem IndexFunc_o (l : List M) (w : W) (hl : l.length ≤ 1000000) (σ : Store) (n o g : Nat) (hn : σ.get n = some (.arr 9 0 [str w])) (ho : σ.get o = some (.arr 25 g (l.map memV))) :
    ACalls E 34 [.rs o g 0 l.length, .fn (.func 35) [] [.rp n 0 0 0]] σ fun a s => a = intV (findI l w) ∧ s = σ := by
  refine ACalls.enterA [] Tryd.func34 rfl Tryd.ntmps34 Tryd.results34 hmE (by kernel_rfl) (by simp) fun hσ => ?_
  conv => arg 5; cbv
  have hn' := (hσ _ _ hn).1
  have ho' := (hσ _ _ ho).1
  simp
  refine loop_n hmE (by kernel_rfl) l.length (fun i => [(8, intV i)]) (fun i => i ≤ l.length ∧ ∀ m ∈ l.take i, m.name ≠ w) (Nat.le_refl _) hσ (by simp) (by simp [hn', ho']) (by simp) fun i ⟨hi, he⟩ => ?_
  simp [ho]
  refine ⟨fun h => ?_, fun h => ?_⟩
  · simp [h]
    refine (Find1_c _ w σ n hn).mono ?_
    rintro a s ⟨rfl, rfl⟩
    simp
    refine ⟨fun hw => Fin.eqv hσ (by simp [findI_at h he hw]) (by simp) (by simp), fun hw => ⟨wrap_succ h (by omega), ⟨h, ?_⟩, by omega⟩⟩
    rw [List.take_succ_eq_append_getElem h]
    simp only [List.mem_append, List.mem_singleton]
    rintro m (hm | rfl)
    · exact he m hm
    · exact hw
  · rw [List.take_of_length_le h] at he
    exact Fin.eqv hσ (by simp [findI_none he]) (by simp) (by simp)
theorem Find_o (l : List M) (w : W) (hl : l.length ≤ 1000000) (σ : Store) (o g : Nat) (ho : σ.get o = some (.arr 25 g (l.map memV))) : ACalls E 13 [.rs o g 0 l.length, str w] σ fun a s => a = intV (findI l w) ∧ s = σ := by
  refine ACalls.enterA [] Tryd.func13 rfl Tryd.ntmps13 Tryd.results13 hmE (by kernel_rfl) (by simp) fun hσ => ?_
  conv => arg 5; cbv
  have ho' := (hσ _ _ ho).1
  simp
  refine (IndexFunc_o l w hl (σ.alloc (.arr 9 0 [str w])) σ.next o g (by simp) (by simp [show ¬ o = σ.next by omega, ho])).mono ?_
  rintro a s ⟨rfl, rfl⟩
  simp
  exact Fin.eqv hσ (by simp) (by simp) (by simp)
theorem m1_o (n o g : Nat) (a : Int) (σ : Store) (ho : o < σ.next) : ACalls E 62 [.rs o g 0 n, intV a] σ fun r s => r = intV n ∧ s = σ := by
  refine ACalls.enterA [] Tryd.func62 rfl Tryd.ntmps62 Tryd.results62 hmE (by kernel_rfl) (by simp) fun hσ => ?_
  conv => arg 5; cbv
  simp
  exact Fin.eqv hσ (by simp) (by simp) (by simp)
theorem m2_o (n o g : Nat) (a : Int) (σ : Store) (ho : o < σ.next) : ACalls E 63 [.rs o g 0 n, intV a] σ fun r s => r = intV a ∧ s = σ := by
  refine ACalls.enterA [] Tryd.func63 rfl Tryd.ntmps63 Tryd.results63 hmE (by kernel_rfl) (by simp) fun hσ => ?_
  conv => arg 5; cbv
  simp
  exact Fin.eqv hσ (by simp) (by simp) (by simp)
theorem m3_o (n o g : Nat) (a : Int) (σ : Store) (ho : o < σ.next) (h0 : -1 ≤ a) (h1 : a ≤ 1000000) : ACalls E 64 [.rs o g 0 n, intV a] σ fun r s => r = intV (a + 1) ∧ s = σ := by
  refine ACalls.enterA [] Tryd.func64 rfl Tryd.ntmps64 Tryd.results64 hmE (by kernel_rfl) (by simp) fun hσ => ?_
  conv => arg 5; cbv
  simp [wrapI (x := a + 1) rfl (by omega) (by omega)]
  exact Fin.eqv hσ (by simp) (by simp) (by simp)
theorem index_o (l : List M) (p : Pl) (hl : l.length ≤ 1000000) (σ : Store) (o g : Nat) (ho : σ.get o = some (.arr 25 g (l.map memV))) : ACalls E 31 [.rs o g 0 l.length, plV p] σ fun r s => r = pairV (placeI l p) ∧ s = σ := by
  obtain ⟨k, w⟩ := p
  refine ACalls.enterA [] Tryd.func31 rfl Tryd.ntmps31 Tryd.results31 hmE (by kernel_rfl) (by simp) fun hσ => ?_
  conv => arg 5; cbv
  have ho' := (hσ _ _ ho).1
  have hn1 : ¬ o = σ.next := by omega
  have hn2 : ¬ o = σ.next + 1 := by omega
  simp
  refine Pur.call (known_p (k, w)) ?_
  simp
  refine ⟨fun h => ?_, fun h => ?_⟩
  · have h' : k < 0 ∨ 2 < k := by omega
    exact Fin.eqv hσ (by simp [placeI, h']) (by simp) (by simp)
  · intro h2
    have hk : k = 0 ∨ k = 1 ∨ k = 2 := by omega
    have hg := findI_ge l w
    have hu := findI_lt (w := w) l
    rcases hk with rfl | rfl | rfl
    · simp
      refine (Find_o l w hl _ o g (by simp [hn1, hn2, ho])).mono ?_
      rintro r s ⟨rfl, rfl⟩
      simp
      refine (m1_o l.length o g _ _ (by simp; omega)).mono ?_
      rintro r s ⟨rfl, rfl⟩
      simp
      exact Fin.eqv hσ (by simp [placeI]) (by simp) (by simp)
    · simp
      refine (Find_o l w hl _ o g (by simp [hn1, hn2, ho])).mono ?_
      rintro r s ⟨rfl, rfl⟩
      simp
      refine ⟨fun h => Fin.eqv hσ (by simp [placeI, h]) (by simp) (by simp), fun h => ?_⟩
      refine (m2_o l.length o g _ _ (by simp; omega)).mono ?_
      rintro r s ⟨rfl, rfl⟩
      have h' : ¬ findI l w < 0 := by omega
      simp
      exact Fin.eqv hσ (by simp [placeI, h']) (by simp) (by simp)
    · simp
      refine (Find_o l w hl _ o g (by simp [hn1, hn2, ho])).mono ?_
      rintro r s ⟨rfl, rfl⟩
      simp
      refine ⟨fun h => Fin.eqv hσ (by simp [placeI, h]) (by simp) (by simp), fun h => ?_⟩
      refine (m3_o l.length o g _ _ (by simp; omega) hg (by omega)).mono ?_
      rintro r s ⟨rfl, rfl⟩
      have h' : ¬ findI l w < 0 := by omega
      simp
      exact Fin.eqv hσ (by simp [placeI, h']) (by simp) (by simp)
theorem Insert_k (l : List M) (k : Nat) (m : M) (hl : few l) (hk : k ≤ l.length) (σ : Store) (o g : Nat) (ho : σ.get o = some (.arr 25 g (l.map memV))) :
    ACalls E 33 [.rs o g 0 l.length, intV k, memsV [m]] σ (InPl σ o (insL l k m)) := by
  have h := Insert_c (l.take k) (l.drop k) m (by simpa using hl) σ o g (by simpa using ho)
  rw [← List.length_append, List.take_append_drop, List.length_take_of_le hk] at h
  exact h
/-- A row that Insert hands back is handed on. -/
theorem InPl.fin {σ0 σ : Store} {o : Nat} {l : List M} {a : AV} {s : Store} {c : Value} (hσ : StoreBel σ0) (hb : Below σ0 σ) (ho : σ0.next ≤ o) (h : InPl σ o l a s) (x : AV × Store → Prop) : AW.Fin σ0.next s (.tup [a, .c c]) fun a' s' => a' = .tup [memsV l, .c c] ∧ s' = σ0 := by
  obtain ⟨o', g', rfl, h4, h5, h6, h7⟩ := h
  have hb' : Below σ0 s := ⟨by have := hb.1; omega, fun j hj => by rw [h7 j (by have := hb.1; omega) (by omega)]; exact hb.2 j hj⟩
  refine Fin.row (F := fun a => .tup [a, .c c]) (T := 25) (es := l.map memV) hσ hb' h4 (by have := hb.1; omega) (by simp) (fun a b h => SR.pair _ h) (by simp) ⟨by simp, rfl⟩
theorem Replace_p (l : List M) (m : M) (p : Pl) (hl : fewer l) (hm : m.data.length ≤ 1000000000) : Pur E 10 [memsV l, memV m, plV p] (resV (replR l m p)) := by
  intro σ
  obtain ⟨k, w⟩ := p
  refine ACalls.enterA [] Tryd.func10 rfl Tryd.ntmps10 Tryd.results10 hmE (by kernel_rfl) (by simp) fun hσ => ?_
  conv => arg 5; cbv
  simp
  refine (clone_own l hl.1 _).mono ?_
  rintro a s ⟨rfl, rfl⟩
  simp
  refine Pur.call (index_p l (k, w) hl.l) ?_
  simp
  refine ⟨fun h => ?_, fun h => ?_⟩
  · refine Fin.row (F := fun a => .tup [a, .c (.int .i64 _)]) (T := 25) (es := l.map memV) hσ (by simp) (by simp) (by omega) (by simp) (fun a b h => SR.pair _ h) (by simp) ⟨by simp [replR, h], rfl⟩
  · refine Pur.call (Find_p l m.name hl.l) ?_
    simp
    refine ⟨fun h2 => ?_, fun h2 => ?_⟩
    · obtain ⟨i, hi⟩ := nat_of h2
      have hlt := findI_lt (w := m.name) l
      rw [hi] at hlt ⊢
      have hil : i < l.length := by omega
      refine Pur.call (cloned_p m hm) ?_
      simp [hil]
      have e : l.set i m = insL (l.eraseIdx i) i m := by
        unfold insL
        rw [List.set_eq_take_append_cons_drop, if_pos hil, List.eraseIdx_eq_take_drop_succ, List.take_left' (by simp; omega), List.drop_left' (by simp; omega)]
      have el : (insL (l.eraseIdx i) i m).length = l.length := by rw [← e]; simp
      have et : List.take l.length ((insL (l.eraseIdx i) i m).map memV) = (insL (l.eraseIdx i) i m).map memV := List.take_of_length_le (by simp [el])
      refine Fin.row (F := fun a => .tup [a, .c (.int .i64 0)]) (T := 25) (es := (insL (l.eraseIdx i) i m).map memV) (g := l.length) hσ (by simp) (by rw [← e]; simp) (by omega) (by simp [el]) (fun a b h => SR.pair _ h) (by rw [et]; simp) ⟨by rw [et]; simp [replR, h, hi], rfl⟩
    · refine Pur.call (cloned_p m hm) ?_
      simp
      obtain ⟨i, hi⟩ := nat_of (placeI_le l (k, w)).1
      have hle := (placeI_le l (k, w)).2
      rw [hi] at hle ⊢
      refine (Insert_k l i m hl.1 (by omega) _ (σ.next + 2) l.length (by simp)).mono ?_
      intro a s hs
      simp
      have h2' : ¬ 0 ≤ findI l m.name := by omega
      have := InPl.fin (c := .int .i64 0) hσ (by simp) (by omega) hs (fun _ => True)
      simpa [replR, h, h2', hi] using this
theorem Append_p (l : List M) (m : M) (hl : fewer l) (hm : m.data.length ≤ 1000000000) : Pur E 19 [memsV l, memV m] (memsV (l ++ [m])) := by
  intro σ
  refine ACalls.enterA [] Tryd.func19 rfl Tryd.ntmps19 Tryd.results19 hmE (by kernel_rfl) (by simp) fun hσ => ?_
  conv => arg 5; cbv
  simp
  refine callD_of (clone_own l hl.1 _) ?_
  simp
  refine Pur.d (cloned_p m hm) ?_
  simp
  have h1 := hl.1.1
  have et : List.take (l.length + 1) ((l ++ [m]).map memV) = (l ++ [m]).map memV := List.take_of_length_le (by simp)
  exact ⟨by omega, by omega, Fin.row (F := fun a => a) (T := 25) (es := (l ++ [m]).map memV) (g := l.length + 1) hσ (by simp) (by simp) (by omega) (by simp) (fun a b h => h) (by rw [et]; exact bel_mems _ _) ⟨by rw [et]; simp, rfl⟩⟩
theorem Move_p (l : List M) (w : W) (p : Pl) (hl : fewer l) : Pur E 16 [memsV l, str w, plV p] (resV (movR l w p)) := by
  intro σ
  obtain ⟨k, v⟩ := p
  refine ACalls.enterA [] Tryd.func16 rfl Tryd.ntmps16 Tryd.results16 hmE (by kernel_rfl) (by simp) fun hσ => ?_
  conv => arg 5; cbv
  simp
  refine Pur.call (known_p (k, v)) ?_
  simp
  refine ⟨fun h => ?_, fun h => ?_⟩
  · refine Pur.call (clones_p l hl.1) ?_
    simp
    have hk : k < 0 ∨ 2 < k := by omega
    exact Fin.eqv hσ (by simp [movR, hk]) (by simp) (by simp)
  · intro h2
    have hk : ¬ (k < 0 ∨ 2 < k) := by omega
    refine (Delete_own l w hl _).mono ?_
    rintro a s ⟨g, rfl, rfl⟩
    simp
    by_cases hf : findI l w < 0
    · have hd : delR l w = (l, 10) := by simp [delR, hf]
      simp [hd]
      refine Fin.row (F := fun a => .tup [a, .c (.int .i64 10)]) (T := 25) (es := l.map memV) hσ (by simp) (by simp) (by simp) (by simp) (fun a b h => SR.pair _ h) (by simp) ⟨by simp [movR, hk, hf], rfl⟩
    · obtain ⟨i, hi⟩ := nat_of (z := findI l w) (by omega)
      have hlt := findI_lt (w := w) l
      have hd : delR l w = (l.eraseIdx i, 0) := by simp [delR, hi]
      rw [hi] at hlt
      have hil : i < l.length := by omega
      simp [hd]
      refine (index_o (l.eraseIdx i) (k, v) (hl.erase i).l _ (σ.next + 1) g (by simp)).mono ?_
      rintro a s ⟨rfl, rfl⟩
      simp
      refine ⟨fun h3 => ?_, fun h3 => ?_⟩
      · refine Pur.call (clones_p l hl.1) ?_
        simp
        exact Fin.eqv hσ (by simp [movR, hk, hi, h3]) (by simp) (by simp)
      · refine Pur.call (Find_p l w hl.l) ?_
        simp [hi, hil]
        refine Pur.call (cloned_p l[i] (hl.1.2 _ (List.getElem_mem hil))) ?_
        simp
        obtain ⟨j, hj⟩ := nat_of (placeI_le (l.eraseIdx i) (k, v)).1
        have hle := (placeI_le (l.eraseIdx i) (k, v)).2
        rw [hj] at hle ⊢
        refine (Insert_k (l.eraseIdx i) j l[i] (hl.erase i).1 (by omega) _ (σ.next + 1) g (by simp)).mono ?_
        intro a s hs
        simp
        have := InPl.fin (c := .int .i64 0) hσ (by simp) (by omega) hs (fun _ => True)
        simpa [movR, hk, hi, h3, hj, hil] using this
end Go.Proofs.YtnnhjaihjfdhbaaDoor
