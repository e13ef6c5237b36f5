/- The law on joined command lines. No condition. -/
import Derived.Test.YtoipkcljmlfobaaDoorC8
set_option linter.unusedVariables false
set_option linter.unusedSimpArgs false
namespace Go.Proofs.YtoipkcljmlfobaaDoor
open Go Go.AW
set_option maxRecDepth 100000
set_option maxHeartbeats 8000000

theorem pres_len : ∀ (l : List W) (i : Int) (out : List Item) (st : St) (m : Nat), out.length ≤ m → (∀ fr fs ns, st = some (fr, fs, ns) → fs.length ≤ m ∧ ns.length ≤ m) → (∀ it ∈ out, it.2.1.length ≤ m ∧ it.2.2.length ≤ m) →
    (prun l i out st).1.length ≤ m + l.length ∧ ∀ it ∈ (prun l i out st).1, it.2.1.length ≤ m + l.length ∧ it.2.2.length ≤ m + l.length
  | [], i, out, none, m, h1, h2, h3 => ⟨by simpa [prun] using h1, by simpa only [prun, List.length_nil, Nat.add_zero] using h3⟩
  | [], i, out, some (fr, fs, ns), m, h1, h2, h3 => by simp [prun]
  | w :: l, i, out, st, m, h1, h2, h3 => by
    rw [prun_cons]
    split
    · simp
    · split
      · have up : ∀ it ∈ out, it.2.1.length ≤ m + 1 ∧ it.2.2.length ≤ m + 1 := fun it h => ⟨by have := (h3 it h).1; omega, by have := (h3 it h).2; omega⟩
        have key : (pstep out st w i).2.1.length ≤ m + 1 ∧ (∀ fr fs ns, (pstep out st w i).2.2 = some (fr, fs, ns) → fs.length ≤ m + 1 ∧ ns.length ≤ m + 1) ∧ ∀ it ∈ (pstep out st w i).2.1, it.2.1.length ≤ m + 1 ∧ it.2.2.length ≤ m + 1 := by
          cases st with
          | none =>
            unfold pstep; simp only
            split
            · exact ⟨by simp; omega, fun a b c e => by simp at e; obtain ⟨_, rfl, rfl⟩ := e; simp, up⟩
            · split
              · exact ⟨by simp; omega, by simp, up⟩
              · refine ⟨by simp; omega, by simp, fun it h => ?_⟩
                rcases List.mem_append.1 h with h | h
                · exact up it h
                · simp at h; subst h; simp
          | some o =>
            obtain ⟨fr, fs, ns⟩ := o
            obtain ⟨g1, g2⟩ := h2 _ _ _ rfl
            unfold pstep; simp only
            split
            · exact ⟨by simp; omega, fun a b c e => by simp at e; obtain ⟨_, rfl, rfl⟩ := e; omega, up⟩
            · split
              · refine ⟨by simp; omega, by simp, fun it h => ?_⟩
                rcases List.mem_append.1 h with h | h
                · exact up it h
                · simp at h; subst h; exact ⟨by show fs.length ≤ _; omega, by show ns.length ≤ _; omega⟩
              · exact ⟨by simp; omega, fun a b c e => by simp at e; obtain ⟨_, rfl, rfl⟩ := e; simp; omega, up⟩
        obtain ⟨k1, k2, k3⟩ := key
        have := pres_len l (i + 1) _ _ (m + 1) k1 k2 k3
        simp only [List.length_cons]
        refine ⟨by omega, fun it h => ?_⟩
        have := this.2 it h
        omega
      · simp

theorem pres_small (ws : List W) (h : ws.length ≤ 1000) : Small (pres ws).1 := by
  have := pres_len ws 0 [] none 0 (by simp) (by simp) (by simp)
  refine ⟨by have := this.1; show (prun ws 0 [] none).1.length ≤ _; omega, fun it hit => ?_⟩
  have := this.2 it hit
  omega
theorem pres_le (ws : List W) : (pres ws).1.length ≤ ws.length := by
  have := (pres_len ws 0 [] none 0 (by simp) (by simp) (by simp)).1
  show (prun ws 0 [] none).1.length ≤ _; omega

theorem CmdlineConcat_c (a b : List W) (hla : a.length ≤ 9223372036854775807) (hlb : b.length ≤ 9223372036854775807) (σ : Store) : ACalls E 4 [strs a, strs b] σ fun r σ' => r = .c (.bool true) ∧ σ' = σ := by
  refine ACalls.enter Tryd.func4 rfl Tryd.ntmps4 Tryd.results4 (by simp) fun hσ => ?_
  refine AW.stepL [] [0, 1] fun K hK => ?_
  simp
  refine hK _ _ ?_; clear hK
  refine AW.seqL [0, 1] fun K1 hK1 => ?_
  refine AW.stepL [] [0, 1, 25] fun K hK => ?_
  have aw1 : ∀ t : Bool, (t = false → a.length ≤ 100 ∧ b.length ≤ 100) → K [(0, strs a), (1, strs b), (25, .c (.bool t))] σ := by
    intro t ht
    refine hK _ _ ?_; clear hK
    cases t with
    | true =>
      refine AW.cond (b := true) (hb := by simp) (fun _ => ?_) (fun h => nomatch h)
      refine AW.stepL [] [4] fun K hK => ?_
      simp
      refine (awake_c σ).mono ?_
      rintro r σ' ⟨rfl, rfl⟩
      simp
      refine hK _ _ ?_; clear hK
      refine AW.ret ?_
      simp
      exact Fin.same (Nat.le_refl _) ⟨rfl, rfl⟩
    | false =>
      obtain ⟨ha, hb⟩ := ht rfl
      refine AW.cond (b := false) (hb := by simp) (fun h => nomatch h) (fun _ => ?_)
      refine AW.skip ?_
      simp
      refine hK1 _ _ ?_; clear hK1
      refine AW.stepL [] [0, 1, 5, 7] fun K hK => ?_
      simp
      refine (Parse_c a (by omega) σ).mono ?_
      rintro r σ' ⟨rfl, rfl⟩
      simp
      refine hK _ _ ?_; clear hK
      refine AW.stepL [] [0, 1, 5, 7, 8, 10] fun K hK => ?_
      simp
      refine (Parse_c b (by omega) σ').mono ?_
      rintro r σ ⟨rfl, rfl⟩
      simp
      refine hK _ _ ?_; clear hK
      refine AW.seqL [0, 1, 5, 8] fun K2 hK2 => ?_
      refine AW.stepL [] [0, 1, 5, 8, 44] fun K hK => ?_
      have bad : K [(0, strs a), (1, strs b), (5, itemsV (pres a).1), (8, itemsV (pres b).1), (44, .c (.bool true))] σ := by
        refine hK _ _ ?_; clear hK
        refine AW.cond (b := true) (hb := by simp) (fun _ => ?_) (fun h => nomatch h)
        refine AW.stepL [] [4] fun K hK => ?_
        simp
        refine hK _ _ ?_; clear hK
        refine AW.ret ?_
        simp
        exact Fin.same (Nat.le_refl _) ⟨rfl, rfl⟩
      by_cases h1 : (pres a).2.2 = 0
      · by_cases h2 : (pres b).2.2 = 0
        · clear bad
          obtain ⟨q1, q2⟩ := law_concat a b h1 h2
          have hab : (a ++ b).length ≤ 1000 := by simp; omega
          simp [h1, h2]
          refine hK _ _ ?_; clear hK
          refine AW.cond (b := false) (hb := by simp) (fun h => nomatch h) (fun _ => ?_)
          refine AW.skip ?_
          simp
          refine hK2 _ _ ?_; clear hK2
          refine AW.stepL [] [5, 8, 11, 13] fun K hK => ?_
          have last : ∀ s1 : Store, σ.next ≤ s1.next → (∀ j, j < σ.next → s1.get j = σ.get j) → K [(5, itemsV (pres a).1), (8, itemsV (pres b).1), (11, itemsV (pres (a ++ b)).1), (13, .c (.int .i64 0))] s1 := by
            intro s1 hle hsame
            refine hK _ _ ?_; clear hK
            refine AW.stepL [] [4] fun K hK => ?_
            have sa := pres_small a (by omega)
            have sb := pres_small b (by omega)
            have sab := pres_small (a ++ b) hab
            have la := pres_le a
            have lb := pres_le b
            simp
            refine (items_c (pres (a ++ b)).1 sab.1 s1).mono ?_
            rintro r s1' ⟨rfl, rfl⟩
            simp
            refine (items_own (pres a).1 sa.1 s1').mono ?_
            rintro r s2 ⟨⟨g, rfl, hO⟩, hlt, hs2⟩
            simp
            refine (items_c (pres b).1 sb.1 s2).mono ?_
            rintro r s2' ⟨rfl, rfl⟩
            simp [hO]
            refine ⟨by intro x hx; rcases hx with ⟨_, _, _, rfl⟩ | ⟨_, _, _, rfl⟩ <;> rfl, by omega, by simp [maxLen]; omega, ?_⟩
            refine ACalls.lend (args' := [itemsV (pres (a ++ b)).1, itemsV ((pres a).1 ++ (pres b).1), .c (.bool false)]) (below_sub _ s1'.next) rfl ?_ ((Same_c (pres (a ++ b)).1 ((pres a).1 ++ (pres b).1) false sab ⟨by simp; omega, fun it h => ?_⟩ _).mono ?_)
            · intro j x y hx hy
              match j, hx, hy with
              | 0, hx, hy => cases hx; cases hy; exact .refl _
              | 1, hx, hy => cases hx; cases hy; exact SR.row (T := 39) (es := (pres a).1.map itemV ++ (pres b).1.map itemV) (by simp) (by simp) (by simp) (by rw [List.drop_zero, List.take_of_length_le (by simp)]; simp)
              | 2, hx, hy => cases hx; cases hy; exact .refl _
            · rcases List.mem_append.1 h with h | h
              · exact sa.2 it h
              · exact sb.2 it h
            rintro r s3 ⟨rfl, rfl⟩
            rw [q2]
            simp
            refine hK _ _ ?_; clear hK
            refine AW.ret ?_
            simp
            refine Fin.c hσ (by simp; omega) (fun j hj => ?_) ⟨rfl, rfl⟩
            simp [show j < s1'.next by omega, show j ≠ s1'.next by omega]
            rw [hs2 j (by omega), hsame j hj]
          clear hK
          have hcall : ∀ (s1 : Store) (x : AV), σ.next ≤ s1.next → (∀ j, j < σ.next → s1.get j = σ.get j) → SR s1 (Store.below s1 σ.next) x (strs (a ++ b)) → ∀ Q : AV → Store → Prop,
              (∀ s3 : Store, σ.next ≤ s3.next → (∀ j, j < σ.next → s3.get j = σ.get j) → Q (.tup [itemsV (pres (a ++ b)).1, .c (.int .i64 (pres (a ++ b)).2.1), .c (.int .i64 0)]) s3) → ACalls E 9 [x] s1 Q := by
            intro s1 x hle hsame hsr Q hQ
            refine ACalls.lend (args' := [strs (a ++ b)]) (below_sub _ σ.next) rfl ?_ ((Parse_c (a ++ b) hab _).mono ?_)
            · intro j u v hu hv
              match j, hu, hv with
              | 0, hu, hv => cases hu; cases hv; exact hsr
            · rintro r s3 ⟨rfl, rfl⟩
              rw [q1]
              exact hQ _ (by simpa using hle) fun j hj => by simp [hj]; exact hsame j hj
          simp
          refine ⟨by omega, by simp [maxLen]; omega, ?_⟩
          by_cases ha0 : a = []
          · by_cases hb0 : b = []
            · subst ha0; subst hb0
              simp
              refine hcall σ .nl (Nat.le_refl _) (fun _ _ => rfl) .nl _ fun s3 g1 g2 => ?_
              simp
              simpa using last s3 g1 g2
            · subst ha0
              simp [hb0]
              refine ⟨by omega, by simp [maxLen]; omega, ?_⟩
              refine hcall _ (.rs σ.next 0 0 b.length) (by simp) (fun j hj => by simp [show j ≠ σ.next by omega]) (SR.row (T := 9) (es := b.map str) (by simp) (by simp) (by simp) (by rw [List.drop_zero, List.take_of_length_le (by simp)]; simp)) _ fun s3 g1 g2 => ?_
              simp
              simpa using last s3 g1 g2
          · simp [ha0]
            refine ⟨by omega, by simp [maxLen]; omega, ?_⟩
            refine hcall _ (.rs σ.next 1 0 (a.length + b.length)) (by simp) (fun j hj => by simp [show j ≠ σ.next by omega]) (SR.row (T := 9) (es := a.map str ++ b.map str) (by simp) (by simp) (by simp) (by rw [List.drop_zero, List.take_of_length_le (by simp)]; simp)) _ fun s3 g1 g2 => ?_
            simp
            simpa using last s3 g1 g2
        · have h2' : ((pres b).2.2 != 0) = true := by simpa using h2
          simp [h1, h2, h2']
          simpa using bad
      · have h1' : ((pres a).2.2 != 0) = true := by simpa using h1
        simp [h1, h1']
        simpa using bad
  clear hK hK1
  simp
  refine (awake_c σ).mono ?_
  rintro r σ' ⟨rfl, rfl⟩
  by_cases h1 : (100 : Int) < a.length
  · simp [h1]
    exact aw1 true (fun h => nomatch h)
  · by_cases h2 : (100 : Int) < b.length
    · simp [h1, h2]
      exact aw1 true (fun h => nomatch h)
    · simp [h1, h2]
      exact aw1 false (fun _ => ⟨by omega, by omega⟩)
end Go.Proofs.YtoipkcljmlfobaaDoor
