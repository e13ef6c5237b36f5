/- The reference's Parse. No condition. -/
import Derived.Test.YtebjdgcnnonjoaaDoorN15
set_option linter.unusedVariables false
set_option linter.unusedSimpArgs false
set_option linter.unnecessarySimpa false
namespace Go.Proofs.YtebjdgcnnonjoaaDoor
open Go Go.AW
set_option maxRecDepth 100000
set_option maxHeartbeats 100000000

def rprsV (x : Mp × Nat × Bool) : AV := .tup [mpV x.1, intV x.2.1, boolV x.2.2]
theorem bel_rprsV (n : Nat) (x : Mp × Nat × Bool) : Bel n (rprsV x) := by
  refine .tup _ ?_
  intro a ha
  simp at ha
  rcases ha with rfl | rfl | rfl
  · exact bel_mp' n _
  · exact .c _
  · exact .c _
/-- The map in the making. -/
def mkO (n : Nat) (m : Mp) : AObj := .arr 33 0 [.agg [.lg (n + 2) (m.us.map uV), .lg (n + 3) (m.ss.map syV), .lg (n + 4) (m.ts.map slV)]]
def mkS (n : Nat) (s : Store) (m : Mp) : Prop := s.get (n + 1) = some (mkO n m) ∧ s.get (n + 2) = some (.log 74 m.us.length) ∧ s.get (n + 3) = some (.log 68 m.ss.length) ∧ s.get (n + 4) = some (.log 71 m.ts.length)
theorem mkO_bel {n k : Nat} (h : n + 5 ≤ k) (m : Mp) : ObjBel k (mkO n m) := by
  intro e he x hx
  simp at he
  subst he
  simp [AV.cells] at hx
  rcases hx with rfl | rfl | rfl
  · exact .lg _ _ (by omega) (by simp)
  · exact .lg _ _ (by omega) (by simp)
  · exact .lg _ _ (by omega) (by simp)
structure RS where
  i : Nat
  s : Store
  m : Mp
  ph : Nat
def headR (σ : Store) (s : W) (sg : List W) (x : RS) : Prop := mkS σ.next x.s x.m ∧ StoreBel x.s ∧ σ.next + 5 ≤ x.s.next ∧ x.s.get σ.next = some (.arr 33 0 [.agg [.nl, .nl, .nl]]) ∧ (∀ n, n < σ.next → x.s.get n = σ.get n) ∧ x.i ≤ sg.length ∧ x.ph ≤ 3 ∧
  x.m.us.length ≤ x.i ∧ x.m.ss.length ≤ x.i ∧ x.m.ts.length ≤ x.i ∧ parseP s = goP (sg.drop x.i) x.i x.m x.ph
def rS (n : Nat) (t : Store) (m : Mp) : Store := (((t.set (n + 1) (mkO n m)).set (n + 2) (.log 74 m.us.length)).set (n + 3) (.log 68 m.ss.length)).set (n + 4) (.log 71 m.ts.length)
theorem rstep {σ t F : Store} {s : W} {sg : List W} {i : Nat} {o : AObj} {m' : Mp} {ph' : Nat} (hF : F = rS σ.next (t.alloc o) m') (ho : ObjBel (t.next + 1) o) (x2 : StoreBel t) (x3 : σ.next + 5 ≤ t.next)
    (x4 : t.get σ.next = some (.arr 33 0 [.agg [.nl, .nl, .nl]])) (x5 : ∀ n, n < σ.next → t.get n = σ.get n) (h6 : i < sg.length) (h7 : ph' ≤ 3) (h8 : m'.us.length ≤ i + 1) (h9 : m'.ss.length ≤ i + 1) (h10 : m'.ts.length ≤ i + 1)
    (h11 : parseP s = goP (sg.drop (i + 1)) (i + 1) m' ph') : ∃ y : RS, (headR σ s sg y ∧ sg.length - y.i < sg.length - i) ∧ Below y.s F ∧ (ph' : Int) = (y.ph : Int) ∧ (i : Int) + 1 = (y.i : Int) := by
  subst hF
  refine ⟨⟨i + 1, _, m', ph'⟩, ⟨⟨?_, ?_, ?_, ?_, ?_, h6, h7, h8, h9, h10, h11⟩, by show sg.length - (i + 1) < _; omega⟩, Below.refl _, rfl, rfl⟩
  · simp [mkS, rS]
  · have b0 := x2.alloc_obj ho
    exact StoreBel.set_obj (o := .log _ _) (StoreBel.set_obj (o := .log _ _) (StoreBel.set_obj (o := .log _ _) (StoreBel.set_obj b0 (by simp; omega) (mkO_bel (by simp; omega) m')) (by simp; omega) trivial) (by simp; omega) trivial) (by simp; omega) trivial
  · simp [rS]; omega
  · simp [rS, x4, show ¬ σ.next = t.next by omega]
  · intro n hn
    simp [rS, show ¬ n = σ.next + 1 by omega, show ¬ n = σ.next + 2 by omega, show ¬ n = σ.next + 3 by omega, show ¬ n = σ.next + 4 by omega, show ¬ n = t.next by omega, x5 n hn]
theorem rParse_p (s : W) (hs : s.length ≤ 3000) : Pur E 10 [str s] (rprsV (parseP s)) := by
  refine Pur.enter [] Tryd.func10 rfl Tryd.ntmps10 Tryd.results10 hmE (by kernel_rfl) (by simp) (fun _ => bel_rprsV _ _) fun σ hσ => ?_
  conv => arg 5; cbv
  simp [-thenK_normal]
  simp only [thenK_normal]
  simp [-thenK_normal]
  refine Pur.call (rSplit_p s 10 (by omega)) ?_
  simp [-thenK_normal]
  repeat (simp only [thenK_normal]; simp [-thenK_normal])
  refine loopW.adopt1 (p := σ.next + 1) (T := 33) (g := 0) (cs := [.nl, .nl, .nl]) (cs' := [.lg (σ.next + 2) [], .nl, .nl]) 74 (by simp) (by simp [cellsAs]) ?_
  refine loopW.adopt1 (p := σ.next + 1) (T := 33) (g := 0) (cs := [.lg (σ.next + 2) [], .nl, .nl]) (cs' := [.lg (σ.next + 2) [], .lg (σ.next + 3) [], .nl]) 68 (by simp) (by simp [cellsAs]) ?_
  refine loopW.adopt1 (p := σ.next + 1) (T := 33) (g := 0) (cs := [.lg (σ.next + 2) [], .lg (σ.next + 3) [], .nl]) (cs' := [.lg (σ.next + 2) [], .lg (σ.next + 3) [], .lg (σ.next + 4) []]) 71 (by simp) (by simp [cellsAs]) ?_
  obtain ⟨sg, hsg⟩ : ∃ sg, sg = sp 10 s := ⟨_, rfl⟩
  have hsl : sg.length ≤ 3001 := by rw [hsg, sp_count]; have := List.count_le_length (a := (10 : UInt8)) (l := s); omega
  have hne : sg ≠ [] := by rw [hsg]; exact spA_ne 10 [] s
  have hlp : 0 < sg.length := List.length_pos_iff.2 hne
  have hsw : ∀ w ∈ sg, w.length ≤ 3000 := fun w hw => by rw [hsg] at hw; have := sp_len hw; omega
  have hpp : parseP s = goP sg 0 Mp.e 0 := by rw [parseP, hsg]
  rw [← hsg]
  clear hsg
  refine loop_e hmE (by kernel_rfl) (⟨0, _, Mp.e, 0⟩ : RS) (fun x => [(7, intV x.ph), (8, intV x.i)]) (fun x => x.s)
    (headR σ s sg)
    (fun x => sg.length - x.i) ?_ ?_ (Below.refl _) ?_ ?_
  · refine ⟨?_, ?_, by simp, ?_, ?_, Nat.zero_le _, Nat.zero_le _, Nat.le_refl _, Nat.le_refl _, Nat.le_refl _, hpp⟩
    · simp [mkS, mkO, Mp.e]
    · refine StoreBel.set_obj (StoreBel.alloc_log (StoreBel.set_obj (StoreBel.alloc_log (StoreBel.set_obj (StoreBel.alloc_log (StoreBel.alloc_arr (StoreBel.alloc_arr hσ (by simp)) (by simp)) _ _) (by simp) ?_) _ _) (by simp) ?_) _ _) (by simp) ?_
      · intro e he x hx
        simp at he
        subst he
        simp [AV.cells] at hx
        rcases hx with rfl | rfl | rfl
        · exact .lg _ _ (by simp) (by simp)
        · exact .nl
      · intro e he x hx
        simp at he
        subst he
        simp [AV.cells] at hx
        rcases hx with rfl | rfl | rfl
        · exact .lg _ _ (by first | (simp; done) | (simp; omega)) (by simp)
        · exact .lg _ _ (by simp) (by simp)
        · exact .nl
      · intro e he x hx
        simp at he
        subst he
        simp [AV.cells] at hx
        rcases hx with rfl | rfl | rfl
        · exact .lg _ _ (by first | (simp; done) | (simp; omega)) (by simp)
        · exact .lg _ _ (by first | (simp; done) | (simp; omega)) (by simp)
        · exact .lg _ _ (by simp) (by simp)
    · simp [show ¬ σ.next = σ.next + 2 + 2 by omega, show ¬ σ.next = σ.next + 1 + 2 by omega]
    · intro n hn
      simp [show ¬ n = σ.next by omega, show ¬ n = σ.next + 1 by omega, show ¬ n = σ.next + 2 by omega, show ¬ n = σ.next + 1 + 2 by omega, show ¬ n = σ.next + 2 + 2 by omega]
  · intro x hx
    obtain ⟨x1, x2, x3, _⟩ := hx
    refine ⟨by omega, x2, ?_⟩
    simp
    omega
  · simp
  · intro x hx
    obtain ⟨i, t, m, ph⟩ := x
    obtain ⟨x1, x2, x3, x4, x5, x6, x7, x8, x9, x10, x11⟩ := hx
    simp only at x1 x2 x3 x4 x5 x6 x7 x8 x9 x10 x11
    obtain ⟨y1, y2, y3, y4⟩ := x1
    have hbel : Below σ t := ⟨by omega, x5⟩
    have z : ∀ c, c < 5 → ¬ t.next = σ.next + c ∧ ¬ σ.next + c = t.next := fun c hc => by omega
    have z0 := z 0 (by omega)
    have z1 := z 1 (by omega)
    have z2 := z 2 (by omega)
    have z3 := z 3 (by omega)
    have z4 := z 4 (by omega)
    simp only [Nat.add_zero] at z0
    have wl : IntKind.i64.wrap ((sg.length : Int) - 1) = (sg.length : Int) - 1 := wrap64_id (by omega) (by omega)
    have wi : i < sg.length → IntKind.i64.wrap ((i : Int) + 1) = (i : Int) + 1 := fun _ => wrap64_id (by omega) (by omega)
    by_cases hi : i < sg.length
    · obtain ⟨x, hx⟩ := get_ex hi
      have hxl := hsw x (List.mem_of_getElem? hx)
      have hdr : sg.drop i = x :: sg.drop (i + 1) := by
        have e := List.getElem?_eq_some_iff.1 hx
        rw [List.drop_eq_getElem_cons e.1, e.2]
      rw [hdr] at x11
      have hO := one_p x hxl
      have hlin := oneP_eq x
      obtain ⟨m1, k1, hO1⟩ : ∃ (m1 : Mp) (k1 : Int), oneV x = .tup [mpV m1, intV k1] := by
        unfold oneV
        cases oneP x with
        | none => exact ⟨_, _, rfl⟩
        | some k => exact ⟨_, _, rfl⟩
      by_cases hlast : i + 1 = sg.length
      · have hli : ((i : Int) = (sg.length : Int) - 1) = True := eq_true (by omega)
        have hd0 : sg.drop (i + 1) = [] := List.drop_eq_nil_of_le (by omega)
        rw [hd0] at x11
        by_cases hgood : ph = 3 ∧ x = []
        · obtain ⟨rfl, rfl⟩ := hgood
          rw [x11, goP, if_pos ⟨rfl, rfl⟩]
          simp [-thenK_normal, hi]
          repeat (simp only [thenK_normal]; simp [-thenK_normal, hx, wl, hli, y1, mkO, x4, z0])
          simp [rprsV, mpV, hbel]
        · rw [x11, goP, if_neg hgood]
          simp [-thenK_normal, hi]
          have hgood' : ph = 3 → ¬ x = [] := fun h e => hgood ⟨h, e⟩
          rw [hO1] at hO
          by_cases hp3 : ph = 3
          · have hxe : ¬ x = [] := hgood' hp3
            subst hp3
            simp only [thenK_normal]
            simp [-thenK_normal, hx, wl, hli, hxe]
            repeat (simp only [thenK_normal]; simp [-thenK_normal, hx, wl, hli, hxe])
            refine Pur.call hO ?_
            simp [-thenK_normal, hx, wl, hli, mpV]
            repeat (simp only [thenK_normal]; simp [-thenK_normal, hx, wl, hli, wi hi, z0, x4])
            simp [rprsV, mpV, Mp.e, hbel.alloc]
          · have hp3' : ¬ (ph : Int) = 3 := by omega
            simp only [thenK_normal]
            simp [-thenK_normal, hx, wl, hli, hp3']
            repeat (simp only [thenK_normal]; simp [-thenK_normal, hx, wl, hli, hp3'])
            refine Pur.call hO ?_
            simp [-thenK_normal, hx, wl, hli, mpV]
            repeat (simp only [thenK_normal]; simp [-thenK_normal, hx, wl, hli, wi hi, z0, x4])
            simp [rprsV, mpV, Mp.e, hbel.alloc]
      · have hli : ¬ (i : Int) = (sg.length : Int) - 1 := by omega
        obtain ⟨x', r', hd1⟩ : ∃ x' r', sg.drop (i + 1) = x' :: r' := List.exists_cons_of_ne_nil (by simp; omega)
        rw [hd1] at x11
        by_cases hp3 : ph = 3
        · rw [x11, goP, if_pos hp3]
          subst hp3
          simp [-thenK_normal, hi]
          repeat (simp only [thenK_normal]; simp [-thenK_normal, hx, wl, hli])
          rw [hO1] at hO
          refine Pur.call hO ?_
          simp [-thenK_normal, hx, wl, hli, mpV]
          repeat (simp only [thenK_normal]; simp [-thenK_normal, hx, wl, hli, wi hi, z0, x4])
          simp [rprsV, mpV, Mp.e, hbel.alloc]
        · have hp3' : ¬ (ph : Int) = 3 := by omega
          rw [goP, if_neg hp3] at x11
          simp [-thenK_normal, hi]
          repeat (simp only [thenK_normal]; simp [-thenK_normal, hx, wl, hli, hp3'])
          cases hlk : lineP x with
          | none =>
            rw [hlk] at x11
            rw [x11]
            rw [oneV, hlin, hlk] at hO
            refine Pur.call hO ?_
            simp [-thenK_normal, hx, wl, hli, mpV, hp3']
            repeat (simp only [thenK_normal]; simp [-thenK_normal, hx, wl, hli, wi hi, hp3', z0, x4, show ((-1 : Int) < (ph : Int)) by omega])
            simp [rprsV, mpV, Mp.e, hbel.alloc]
          | some k =>
            rw [oneV, hlin, hlk] at hO
            rw [hlk] at x11
            by_cases hkp : k.ph < ph
            · rw [x11]
              simp only
              rw [if_pos hkp]
              refine Pur.call hO ?_
              simp [-thenK_normal, hx, wl, hli, mpV, hp3']
              repeat (simp only [thenK_normal]; simp [-thenK_normal, hx, wl, hli, wi hi, hp3', z0, x4, hkp, show (k.ph : Int) < (ph : Int) by omega])
              simp [rprsV, mpV, Mp.e, hbel.alloc]
            · simp only [if_neg hkp] at x11
              rw [← hd1] at x11
              have hk1 : ¬ (k.ph : Int) < (ph : Int) := by omega
              have hk2 : (ph : Int) ≤ (k.ph : Int) := by omega
              cases k with
              | e =>
                refine Pur.call hO ?_
                simp [-thenK_normal, hx, wl, hli, mpV, hp3', Ln.ph, Mp.add, Mp.e] at hk1 hk2 ⊢
                repeat (simp only [thenK_normal]; simp [-thenK_normal, hx, wl, wi hi, hli, hp3', hk1, hk2, y1, y2, y3, y4, z0, z1, z2, z3, z4, mkO, x4])
                refine ⟨by omega, by omega, by omega, by omega, by omega, by omega, by omega, ?_⟩
                exact rstep (o := mpO 33 Mp.e) (m' := m) (ph' := 3) (by simp [rS, mkO, mpO, Mp.e]) (mpO_bel _ _) x2 x3 x4 x5 hi (by omega) (by omega) (by omega) (by omega) x11
              | u y =>
                refine Pur.call hO ?_
                simp [-thenK_normal, hx, wl, hli, mpV, hp3', Ln.ph, Mp.add, Mp.e] at hk1 hk2 ⊢
                repeat (simp only [thenK_normal]; simp [-thenK_normal, hx, wl, wi hi, hli, hp3', hk1, hk2, y1, y2, y3, y4, z0, z1, z2, z3, z4, mkO, x4])
                refine ⟨rfl, by omega, by omega, by omega, by omega, by omega, by omega, ?_⟩
                exact rstep (o := mpO 33 ⟨[y], [], []⟩) (m' := ⟨m.us ++ [y], m.ss, m.ts⟩) (ph' := 0) (by simp [rS, mkO, mpO, Mp.e]) (mpO_bel _ _) x2 x3 x4 x5 hi (by omega) (by simp; omega) (by simp; omega) (by simp; omega) x11
              | s y =>
                refine Pur.call hO ?_
                simp [-thenK_normal, hx, wl, hli, mpV, hp3', Ln.ph, Mp.add, Mp.e] at hk1 hk2 ⊢
                repeat (simp only [thenK_normal]; simp [-thenK_normal, hx, wl, wi hi, hli, hp3', hk1, hk2, y1, y2, y3, y4, z0, z1, z2, z3, z4, mkO, x4])
                refine ⟨by omega, by omega, by omega, rfl, by omega, by omega, by omega, by omega, ?_⟩
                exact rstep (o := mpO 33 ⟨[], [y], []⟩) (m' := ⟨m.us, m.ss ++ [y], m.ts⟩) (ph' := 1) (by simp [rS, mkO, mpO, Mp.e]) (mpO_bel _ _) x2 x3 x4 x5 hi (by omega) (by simp; omega) (by simp; omega) (by simp; omega) x11
              | t y =>
                refine Pur.call hO ?_
                simp [-thenK_normal, hx, wl, hli, mpV, hp3', Ln.ph, Mp.add, Mp.e] at hk1 hk2 ⊢
                repeat (simp only [thenK_normal]; simp [-thenK_normal, hx, wl, wi hi, hli, hp3', hk1, hk2, y1, y2, y3, y4, z0, z1, z2, z3, z4, mkO, x4])
                refine ⟨by omega, by omega, by omega, by omega, by omega, rfl, by omega, by omega, ?_⟩
                exact rstep (o := mpO 33 ⟨[], [], [y]⟩) (m' := ⟨m.us, m.ss, m.ts ++ [y]⟩) (ph' := 2) (by simp [rS, mkO, mpO, Mp.e]) (mpO_bel _ _) x2 x3 x4 x5 hi (by omega) (by simp; omega) (by simp; omega) (by simp; omega) x11
    · have hie : i = sg.length := by omega
      have hd0 : sg.drop i = [] := List.drop_eq_nil_of_le (by omega)
      rw [x11, hd0, goP]
      clear x11 hpp
      subst hie
      simp [-thenK_normal]
      repeat (simp only [thenK_normal]; simp [-thenK_normal, hi, x4, z0])
      simp [rprsV, mpV, Mp.e, hbel]
end Go.Proofs.YtebjdgcnnonjoaaDoor
