/- Decoding. No condition. -/
import Derived.Test.YtcjdagpadnahfaaGreatDoorB3
set_option linter.unusedVariables false
set_option linter.unusedSimpArgs false
set_option linter.unnecessarySimpa false
namespace Go.Proofs.YtcjdagpadnahfaaGreatDoor
open Go Go.AW
set_option maxRecDepth 100000
set_option maxHeartbeats 8000000

/-- Code, as an annotated walk takes it. -/
theorem AW.ann8 {E : Env} {n N : Nat} {c : Code} {f : Nat → AV} {σ : Store} {Q : Kn} (ow res : List Nat) (hm : E.P.follows .mixedOrders = true) (hd : drawsT (annot ow res c [] []) = drawsU (annot ow res c [] [])) (h : wpA E n N ow (annot ow res c [] []) f σ Q) : AW E n N c f σ Q := by
  have := wpA_ok hm _ _ _ _ hd h
  rw [er_annot] at this
  exact this
theorem ADef_mono8 {E : Env} {k : FuncId} {args : List AV} {m : Option AV} {σ : Store} {K K' : Store → Prop} (h : ADef E k args m σ K) (hk : ∀ s, K s → K' s) : ADef E k args m σ K' := by
  intro Γ w vs u hr hv hu
  refine (h Γ w vs u hr hv hu).mono ?_
  rintro e u' w' ⟨r, Γ', σ', h1, h2, h3, h4, h5⟩
  exact ⟨r, Γ', σ', h1, h2, h3, h4, hk _ h5⟩
theorem clos_none (i k : Nat) (σ : Store) : ADef E 75 [.rp i 0 0 0, .rp k 0 0 0] none σ fun s => s = σ := by
  refine ADef.of hpE Tryz.func75 rfl Tryz.ntmps75 Tryz.results75 rfl rfl rfl rfl (by kernel_rfl) (by simp) (by kernel_rfl) [] fun hσ => ?_
  rw [argF_tf]
  simp [aput]
  refine AW.ann8 [] [] hmE (by kernel_rfl) ?_
  conv => arg 5; cbv
  simp
theorem clos_some (e : Int) (i k : Nat) (x1 x2 : AV) (v : Value) (σ : Store) (hi : σ.get i = some (.arr 71 0 [.agg [x1, x2]])) (hk : σ.get k = some (.arr 30 0 [.c v])) (hik : i ≠ k) : ADef E 75 [.rp i 0 0 0, .rp k 0 0 0] (some (failV e)) σ fun s =>
    s = ((σ.alloc (.arr 137 0 [.agg [intV e]])).set i (.arr 71 0 [.agg [.nl, .nl]])).set k (.arr 30 0 [intV e]) := by
  refine ADef.of hpE Tryz.func75 rfl Tryz.ntmps75 Tryz.results75 rfl rfl rfl rfl (by kernel_rfl) (by simp) (by kernel_rfl) [] fun hσ => ?_
  have h1 := (hσ _ _ hi).1
  have h2 := (hσ _ _ hk).1
  rw [argF_tf]
  simp [failV, aput]
  refine AW.ann8 [] [] hmE (by kernel_rfl) ?_
  conv => arg 5; cbv
  simp [hi, hk, hik, hik.symm, show ¬ i = σ.next by omega, show ¬ k = σ.next by omega, show ¬ σ.next = i by omega, show ¬ σ.next = k by omega]
def decV (b : W) : AV := .tup [objV (decO b).2.1 (decO b).2.2, intV (decO b).1]
theorem decS_bad : ∀ (n : Nat) (b : W) (l : List Sm), (decS n b l).1 ≠ 0 → (decS n b l).2 = ([], [])
  | 0, b, l, h => absurd rfl h
  | n + 1, b, l, h => by
    unfold decS at h ⊢
    split
    · rfl
    · rename_i h1
      rw [if_neg h1] at h
      split
      · rename_i h2
        rw [if_pos h2] at h
        exact decS_bad n _ _ h
      · rfl
theorem decO_bad {b : W} (h : (decO b).1 ≠ 0) : (decO b).2 = ([], []) := by
  unfold decO at h ⊢
  split
  · rfl
  · rename_i h1
    rw [if_neg h1] at h
    split
    · rfl
    · rename_i h2
      rw [if_neg h2] at h
      split
      · rfl
      · rename_i h3
        rw [if_neg h3] at h
        split
        · rfl
        · rename_i h4
          rw [if_neg h4] at h
          exact decS_bad _ _ _ h
theorem Decode_p (b : W) (hbl : b.length ≤ 1000000) : Pur E 43 [bytes b] (decV b) := by
  intro σ
  refine ACalls.of_AB (E := E) Tryz.func43 rfl Tryz.ntmps43 Tryz.results43 (by simp) fun hσ => ?_
  rw [argF_tf]
  refine AB.seq hpE (AW.region (ow := []) ?_)
  simp
  refine AB.defer hpE (l1 := [_]) (l2 := []) rfl rfl rfl rfl [] (fun _ σ1 => pb σ1 (decO b).1) [2, 3] (by kernel_rfl) ?_
  simp [aput, -aRes, -pack]
  refine ⟨_, _, ⟨rfl, rfl⟩, by kernel_rfl, ?_, ?_⟩
  · refine AW.ann8 [] [2, 3] hmE (by kernel_rfl) ?_
    conv => arg 5; cbv
    obtain ⟨σA, hA⟩ : ∃ σA, σA = (σ.alloc (.arr 71 0 [.agg [.nl, .nl]])).alloc (.arr 30 0 [.c (.int .i64 0)]) := ⟨_, rfl⟩
    have hAn : σA.next = σ.next + 2 := by rw [hA]; rfl
    have a1 : σA.get σ.next = some (.arr 71 0 [.agg [.nl, .nl]]) := by rw [hA]; simp
    have a2 : σA.get (σ.next + 1) = some (.arr 30 0 [.c (.int .i64 0)]) := by rw [hA]; simp
    rw [← hA]
    simp [-aRes, -pack, hAn]
    refine (object_c σA _ (σ.next + 2) b _ rfl (by simp [isD, hAn]) (by simp) (by omega) hbl).mono ?_
    rintro r s ⟨h0, rfl, hs⟩
    have s1 : s.get σ.next = some (.arr 71 0 [.agg [.nl, .nl]]) := by rw [hs.2 _ (by omega)]; exact a1
    have s2 : s.get (σ.next + 1) = some (.arr 30 0 [.c (.int .i64 0)]) := by rw [hs.2 _ (by omega)]; exact a2
    have hsn := hs.1
    simp [-aRes, -pack, -thenK_normal, objV, s1, s2]
    repeat (simp only [thenK_normal]; simp [-aRes, -pack, -thenK_normal, objV, s1, s2])
    refine ADef_mono8 (clos_none _ _ _) fun s5 h5 => ?_
    subst h5
    simp
    refine Fin.back hσ (by simp; omega) (fun k o ho => ?_) (.refl _) (by simp [decV, objV]) ⟨by simp [decV, objV, h0], rfl⟩
    have hk := (hσ k o ho).1
    simp [show ¬ k = σ.next by omega, show ¬ k = σ.next + 1 by omega]
    rw [hs.2 _ (by omega), hA]
    simp [show ¬ k = σ.next by omega, show ¬ k = σ.next + 1 by omega, ho]
  · rintro a σ4 ⟨rfl, hne, hb4⟩
    have hbn := hb4.1
    simp at hbn
    have s1 : σ4.get σ.next = some (.arr 71 0 [.agg [.nl, .nl]]) := by rw [hb4.2 _ (by simp)]; simp
    have s2 : σ4.get (σ.next + 1) = some (.arr 30 0 [.c (.int .i64 0)]) := by rw [hb4.2 _ (by simp)]; simp
    refine ADef_mono8 (clos_some _ σ.next (σ.next + 1) .nl .nl _ σ4 s1 s2 (by omega)) ?_
    rintro s rfl
    simp [keepF]
    have hdv : decV b = .tup [.agg [.ps [], .ps []], intV (decO b).1] := by simp [decV, objV, decO_bad hne]
    refine Fin.back hσ (by simp; omega) (fun k o ho => ?_) (a' := decV b) ?_ (by simp [decV, objV]) ⟨rfl, rfl⟩
    · have hk := (hσ k o ho).1
      simp [show ¬ k = σ.next by omega, show ¬ k = σ.next + 1 by omega, show ¬ k = σ4.next by omega]
      rw [hb4.2 _ (by simp; omega)]
      simp [show ¬ k = σ.next by omega, show ¬ k = σ.next + 1 by omega, ho]
    · rw [hdv]
      have := sr_frz ((((σ4.alloc (.arr 137 0 [.agg [intV (decO b).1]])).set σ.next (.arr 71 0 [.agg [.nl, .nl]])).set (σ.next + 1) (.arr 30 0 [intV (decO b).1]))) σ (.tup [.agg [.nl, .nl], intV (decO b).1])
      simpa using this
end Go.Proofs.YtcjdagpadnahfaaGreatDoor
