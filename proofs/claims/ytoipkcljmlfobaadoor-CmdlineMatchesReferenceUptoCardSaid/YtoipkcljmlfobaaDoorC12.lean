/- The law on the reference implementation. No condition. -/
import Derived.Test.YtoipkcljmlfobaaDoorC11
set_option linter.unusedVariables false
set_option linter.unusedSimpArgs false
namespace Go.Proofs.YtoipkcljmlfobaaDoor
open Go Go.AW
set_option maxRecDepth 100000
set_option maxHeartbeats 8000000

theorem mono_len {α β : Type} (f : α → List β) (m : Nat) (l : List α) (h : ∀ a ∈ l, (f a).length ≤ m) (hl : l.length ≤ 100) (hm : m ≤ 1000) : (l.flatMap f).length ≤ 100000 := by
  have h1 := flat_bound f m l h
  have h2 : l.length * m ≤ 100 * 1000 := Nat.mul_le_mul hl hm
  omega

theorem CmdlineMatchesReference_c (ws : List W) (its : List Item) (hl : ws.length ≤ 9223372036854775807) (hli : its.length ≤ 9223372036854775807) (hfl : ∀ it ∈ its, it.2.1.length ≤ 9223372036854775807) (hal : ∀ it ∈ its, it.2.2.length ≤ 1048576) (σ : Store) : ACalls E 6 [strs ws, itemsV its] σ fun r σ' => r = .c (.bool true) ∧ σ' = σ := by
  refine ACalls.enter Tryd.func6 rfl Tryd.ntmps6 Tryd.results6 (by simp) fun hσ => ?_
  refine AW.stepL [] [0, 1] fun K hK => ?_
  simp
  refine hK _ _ ?_; clear hK
  refine AW.seqL [0, 1] fun K1 hK1 => ?_
  refine AW.stepL [] [0, 1, 24] fun K hK => ?_
  have aw1 : ∀ t : Bool, (t = false → ws.length ≤ 200 ∧ its.length ≤ 100) → K [(0, strs ws), (1, itemsV its), (24, .c (.bool t))] σ := by
    intro t ht
    refine hK _ _ ?_; clear hK
    cases t with
    | true =>
      refine AW.cond (b := true) (hb := by simp) (fun _ => ?_) (fun h => nomatch h)
      refine AW.stepL [] [4] fun K hK => ?_
      simp
      refine (awake_c σ).mono ?_
      rintro r σ' ⟨rfl, rfl⟩
      simp
      refine hK _ _ ?_; clear hK
      refine AW.ret ?_
      simp
      exact Fin.same (Nat.le_refl _) ⟨rfl, rfl⟩
    | false =>
      obtain ⟨hln, hn⟩ := ht rfl
      refine AW.cond (b := false) (hb := by simp) (fun h => nomatch h) (fun _ => ?_)
      refine AW.skip ?_
      simp
      refine hK1 _ _ ?_; clear hK1
      refine AW.stepL [] [0, 1, 5, 6, 7] fun K hK => ?_
      simp
      refine (Parse_c ws (by omega) σ).mono ?_
      rintro r σ' ⟨rfl, rfl⟩
      simp
      refine hK _ _ ?_; clear hK
      refine AW.stepL [] [1, 5, 6, 7, 8, 9, 10] fun K hK => ?_
      simp
      refine (rParse_c ws (by omega) σ').mono ?_
      rintro r σ ⟨rfl, rfl⟩
      have hsm := pres_small ws (by omega)
      generalize hm : pres ws = m at *
      obtain ⟨mi, mn, me⟩ := m
      simp only at hsm
      simp
      refine hK _ _ ?_; clear hK
      refine AW.stepL [] [1, 5, 6, 7, 8, 9, 10, 11] fun K hK => ?_
      simp
      refine hK _ _ ?_; clear hK
      refine AW.adopt 11 9 (by simp) (by simp) ?_
      refine AW.only [(1, itemsV its), (5, itemsV mi), (6, .c (.int .i64 mn)), (7, .c (.int .i64 me)), (8, itemsV mi), (9, .c (.int .i64 mn)), (10, .c (.int .i64 me)), (11, .rs σ.next 0 0 0)] (by simp) (by simp [Knows]) ?_
      refine AW.seqL [1, 5, 6, 7, 8, 9, 10, 11] fun K3 hK3 => ?_
      refine AW.stepL [] [1, 5, 6, 7, 8, 9, 10, 11, 12] fun K hK => ?_
      simp
      refine hK _ _ ?_; clear hK
      refine AW.block ?_
      refine AW.loopS (ι := Nat × Nat × Store) (fun x => [(1, itemsV its), (5, itemsV mi), (6, .c (.int .i64 mn)), (7, .c (.int .i64 me)), (8, itemsV mi), (9, .c (.int .i64 mn)), (10, .c (.int .i64 me)), (11, .rs σ.next x.2.1 0 (filesOf (its.take x.1)).length), (12, .c (.int .i64 x.1))]) (fun x => x.2.2)
        (fun x => x.1 ≤ its.length ∧ σ.next < x.2.2.next ∧ (∀ j, j < σ.next → x.2.2.get j = σ.get j) ∧ x.2.2.get σ.next = some (.arr 9 x.2.1 ((filesOf (its.take x.1)).map str)) ∧ ∀ it ∈ its.take x.1, it.2.1.length ≤ 100) (fun x => its.length - x.1) (0, 0, _)
        (fun x hx => by have := hx.2.1; omega) ⟨Nat.zero_le _, by simp, fun j hj => by simp [show j ≠ σ.next by omega], by simp [filesOf], by simp⟩ rfl (by simp [Knows, filesOf]) ?_
      rintro ⟨x, g, s⟩ ⟨hx, hnx, hsame, hO, hsml⟩
      simp only at hx hnx hsame hO hsml ⊢
      have hacc : (filesOf (its.take x)).length ≤ 100000 := mono_len (fun it : Item => it.2.1) 100 _ hsml (by simp; omega) (by omega)
      refine AW.seqL [1, 5, 6, 7, 8, 9, 10, 11, 12] fun K4 hK4 => ?_
      refine AW.stepL [] [1, 5, 6, 7, 8, 9, 10, 11, 12, 41] fun K hK => ?_
      simp
      refine hK _ _ ?_; clear hK
      refine AW.cond (hb := by simp; rfl) (fun hb => ?_) (fun hb => ?_)
      · simp at hb
        obtain ⟨it, hit⟩ := get_ex hb
        have hltI : (x : Int) < its.length := by omega
        have hsn : filesOf (its.take (x + 1)) = filesOf (its.take x) ++ it.2.1 := flat_snoc (fun it : Item => it.2.1) hit
        have hw1 : IntKind.i64.wrap ((x : Int) + 1) = (x : Int) + 1 := wrap64_id (by omega) (by omega)
        have hfi := hfl it (List.mem_of_getElem? hit)
        refine AW.skip ?_
        simp
        refine hK4 _ _ ?_; clear hK4
        refine AW.seqL [1, 5, 6, 7, 8, 9, 10, 11, 12] fun K5 hK5 => ?_
        refine AW.block ?_
        refine AW.seqL [1, 5, 6, 7, 8, 9, 10, 11, 12] fun K6 hK6 => ?_
        refine AW.stepL [] [1, 5, 6, 7, 8, 9, 10, 11, 12, 50] fun K hK => ?_
        simp [hit, hltI, itemV]
        refine hK _ _ ?_; clear hK
        refine AW.cond (hb := by simp; rfl) (fun hb2 => ?_) (fun hb2 => ?_)
        · refine AW.stepL [] [4] fun K hK => ?_
          simp
          refine hK _ _ ?_; clear hK
          refine AW.ret ?_
          simp
          exact Fin.c hσ (by omega) hsame ⟨rfl, rfl⟩
        · simp at hb2
          have hsmall : it.2.1.length ≤ 100 := by omega
          refine AW.skip ?_
          simp
          refine hK6 _ _ ?_; clear hK6
          refine AW.region (ow := []) ?_
          simp [hit, hltI, itemV, hO]
          refine ⟨by omega, by simp [maxLen]; omega, ?_⟩
          refine hK5 _ _ ?_; clear hK5
          refine AW.region (ow := []) ?_
          simp [hw1]
          refine ⟨x + 1, g + 1, _, ⟨by omega, by simpa using hnx, fun j hj => by simp [show j ≠ σ.next by omega]; exact hsame j hj, by rw [hsn]; simp, ?_⟩, rfl, by rw [hsn]; simp [Knows], by omega⟩
          have e : its.take (x + 1) = its.take x ++ [it] := by rw [List.take_add_one, hit]; rfl
          rw [e]
          have hall : ∀ it' ∈ its.take x ++ [it], it'.2.1.length ≤ 100 := fun it' h => by
            rcases List.mem_append.1 h with h | h
            · exact hsml _ h
            · obtain rfl := List.mem_singleton.1 h; exact hsmall
          exact ⟨fun a b h => hall _ h, fun a b h => hall _ h⟩
      · simp at hb
        have hxe : x = its.length := by omega
        rw [hxe, List.take_length] at hO hsml hacc
        refine AW.exit ?_
        simp
        refine hK3 _ _ ?_; clear hK3
        rw [show filesOf (its.take x) = filesOf its by rw [hxe, List.take_length]]
        have hwd : (wordsOf its).length ≤ 1000000 := by
          have := mono_len wd 102 its (fun it hit => by
            have := hsml it hit
            simp only [wd]
            split
            · simp only [List.length_cons, List.length_append, List.length_nil]; omega
            · omega) hn (by omega)
          show (its.flatMap wd).length ≤ _; omega
        have hback : ∀ it ∈ its, it.2.1.length ≤ 1048576 ∧ it.2.2.length ≤ 1048576 := fun it hit => ⟨by have := hsml it hit; omega, hal it hit⟩
        refine AW.stepL [] [4] fun K hK => ?_
        simp
        refine (items_c mi hsm.1 s).mono ?_
        rintro r s' ⟨rfl, rfl⟩
        simp
        refine (Same_c mi mi true hsm hsm s').mono ?_
        rintro r s ⟨rfl, rfl⟩
        rw [same_refl]
        simp
        refine (back_c its (by omega) hback s).mono ?_
        rintro r s' ⟨rfl, rfl⟩
        simp
        refine (Words_c its (by omega) hwd s').mono ?_
        rintro r s ⟨rfl, rfl⟩
        simp
        refine (rWords_c its (by omega) hwd s).mono ?_
        rintro r s' ⟨rfl, rfl⟩
        simp
        refine (Texts_c (wordsOf its) (wordsOf its) (by omega) (by omega) s').mono ?_
        rintro r s ⟨rfl, rfl⟩
        simp
        refine (back_c its (by omega) hback s).mono ?_
        rintro r s' ⟨rfl, rfl⟩
        simp
        refine (Files_c its (by omega) (by omega) s').mono ?_
        rintro r s ⟨rfl, rfl⟩
        simp
        refine ACalls.lend (args' := [strs (filesOf its), strs (filesOf its)]) (below_sub _ σ.next) rfl ?_ ((Texts_c (filesOf its) (filesOf its) (by omega) (by omega) _).mono ?_)
        · intro j u v hu hv
          match j, hu, hv with
          | 0, hu, hv => cases hu; cases hv; exact .refl _
          | 1, hu, hv => cases hu; cases hv; exact SR.row (T := 9) (es := (filesOf its).map str) hO (by simp) (by simp) (by rw [List.drop_zero, List.take_of_length_le (by simp)])
        rintro r s3 ⟨rfl, rfl⟩
        simp
        refine hK _ _ ?_; clear hK
        refine AW.ret ?_
        simp
        refine Fin.c hσ (by simp; omega) (fun j hj => ?_) ⟨rfl, rfl⟩
        simp [hj, hsame j hj]
  clear hK hK1
  simp
  refine (awake_c σ).mono ?_
  rintro r σ' ⟨rfl, rfl⟩
  by_cases h1 : (200 : Int) < ws.length
  · simp [h1]
    exact aw1 true (fun h => nomatch h)
  · by_cases h2 : (100 : Int) < its.length
    · simp [h1, h2]
      exact aw1 true (fun h => nomatch h)
    · simp [h1, h2]
      exact aw1 false (fun _ => ⟨by omega, by omega⟩)
end Go.Proofs.YtoipkcljmlfobaaDoor
