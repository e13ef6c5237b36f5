/- The given card CmdlineMatchesReferenceUptoCardSaid: whatever the arguments of bulk at most 1048576, the law returns true and leaves them as they were, the listed variables being as the text lays them. No condition. -/
import Derived.Test.YtoipkcljmlfobaaDoorC12
import Derived.Test.YtoipkcljmlfobaaDoorK1
set_option linter.unusedVariables false
set_option linter.unusedSimpArgs false
namespace Go.Proofs.YtoipkcljmlfobaaDoor.cmdlineMatchesReference
open Go Go.AW
set_option maxRecDepth 100000
set_option maxHeartbeats 8000000

theorem u3 : Tryd.prog.underlying 3 = some (.int .i64) := by kernel_rfl
theorem u4 : Tryd.prog.underlying 4 = some .bool := by kernel_rfl
theorem u9 : Tryd.prog.underlying 9 = some .string := by kernel_rfl
theorem u22 : Tryd.prog.underlying 22 = some (.slice 9) := by kernel_rfl
theorem u30 : Tryd.prog.underlying 30 = some (.slice 39) := by kernel_rfl
theorem u34 : Tryd.prog.underlying 34 = some (.slice 3) := by kernel_rfl

theorem contract (H : Type) (enc : TypeId × Value → H) (W : World) (base : Nat) (args : Array Value) (ds gs : List (DataW H)) (before : List MemPlace)
    (hval : ∀ (j : Nat) t v, Tryd.f6.params[j]? = some t → args[j]? = some v → Value.okWide Tryd.prog W .any base t v)
    (hW : DataW.Whole enc Tryd.prog Tryd.f6.params.toList Rows.cmdlineMatchesReferenceSpec.vars false W args.toList ds gs before) (hL : laidMetH Tryd.prog Rows.cmdlineMatchesReferenceUptoRow.laid W) (hcond : Rows.uptoSmall H (ds ++ gs) = true) :
    Calls Tryd.prog 6 args W fun e W' => ∃ v, e = .returned v ∧ Rows.cmdlineMatchesReferenceSpec.post enc Tryd.prog Tryd.f6 false true false false W args v W' := by
  refine row_of (E := E) (n := 8) (bulkOk H) laidOut (by kernel_rfl) (by kernel_rfl) rfl bool4 rfl ?_ (globs hL) hval hW ?_
  · intro ds h
    match ds, h with
    | [_, _], _ => exact ⟨rfl, rfl, rfl⟩
  · intro xs hx hblk
    have hx : RdAll Tryd.prog 8 [22, 30] xs := hx
    simp only [RdAll, Rd, u3, u4, u9, u22, u30, u34, Tryd.underlying39, RdParts, List.toList_toArray] at hx
    obtain ⟨_, _, rfl, ⟨es, rfl, hl, hes⟩, _, _, rfl, ⟨es', rfl, hl', hes'⟩, rfl⟩ := hx
    obtain ⟨l, rfl⟩ := words_of hes
    obtain ⟨its, rfl, hits⟩ := list_of (f := itemV) (p := fun it => it.2.1.length ≤ maxLen) (es := es') fun x hx => by
      obtain ⟨cs, rfl, a1, cs1, rfl, ⟨b, rfl⟩, a2, cs2, rfl, ⟨fs, rfl, hfl, hfs⟩, a3, cs3, rfl, ⟨ns, rfl, hnl, hns⟩, rfl⟩ := hes' x hx
      obtain ⟨fl, rfl⟩ := words_of hfs
      obtain ⟨nl, rfl⟩ := ints_of hns
      exact ⟨(b, fl, nl), by simp [itemV, AV.cells], by simpa using hfl⟩
    have hsmall : Rows.uptoBulkAll (ds ++ gs) ≤ 1048576 := of_decide_eq_true hcond
    have hle := bulk_append ds gs
    refine (CmdlineMatchesReference_c l its (by simpa [maxLen] using hl) (by simpa [maxLen] using hl') (fun it hit => by simpa [maxLen] using hits it hit) (fun it hit => ?_) σ0).mono fun _ _ h => h.1
    have h1 := blk_mem (List.mem_map_of_mem (f := itemV) hit)
    have h2 : it.2.2.length ≤ blk (itemV it) := by
      have := blk_len (it.2.2.map intV)
      simp only [itemV, blk, blkAll, ints, List.length_map] at this ⊢
      omega
    simp only [blkAll, blk] at hblk
    omega

theorem reads (os : Os) {H : Type} (enc : TypeId × Value → H) : ∃ places, DataW.whole enc Tryd.prog ((laidWorld os).forCall (fun _ _ => 0) ⟨#[], #[.slice none 0 0, .slice none 0 0], []⟩).memory Tryd.f6.params.toList Rows.cmdlineMatchesReferenceSpec.vars false #[.slice none 0 0, .slice none 0 0].toList 8 = some ([.nil, .nil], [], places) :=
  ⟨[], by kernel_rfl⟩

theorem lifted (os : Os) (started : os.Started) (H : Type) (enc : TypeId × Value → H) (F : Stop.Interp) :
    ReturnsInHanded {} Tryd.checked os 6 .any ((Rows.OpenSpec.upto Rows.cmdlineMatchesReferenceSpec).preRow enc Tryd.prog Tryd.f6 Rows.cmdlineMatchesReferenceUptoRow.domain false Rows.cmdlineMatchesReferenceUptoRow.laid) (((Rows.OpenSpec.upto Rows.cmdlineMatchesReferenceSpec).at F).post enc Tryd.prog Tryd.f6 false true false false) := by
  obtain ⟨places, hx⟩ := reads os enc
  refine returnsInHanded_of_row (C := Tryd.checked) (s := Rows.OpenSpec.upto Rows.cmdlineMatchesReferenceSpec) own started (by kernel_rfl) Tryd.func6
    (witness_row_atRef (enc := enc) (C := Tryd.checked) false (laidWorld os) #[.slice none 0 0, .slice none 0 0] rfl (by kernel_rfl) (by kernel_rfl) (by kernel_rfl)
      (OpenSpec.preRow_of_cond 8 hx (by kernel_rfl) (fun k hk => by cases hk; kernel_rfl) (by kernel_rfl) (laid_met os _))) ?_
  intro W base args ds gs before hval hW _ hcond _ hL _ _
  exact contract H enc W base args ds gs before hval hW hL (hcond _ rfl)

theorem said : Rows.CmdlineMatchesReferenceUptoSaid :=
  OpenClaim.holds_of_cond 6 Tryd.f6 rfl rfl rfl rfl rfl rfl rfl ⟨rfl, rfl, rfl, rfl, rfl⟩ rfl rfl rfl rfl rfl (by kernel_rfl) Tryd.func6 (by kernel_rfl)
    (of_decide_eq_true (by kernel_rfl)) (by unfold Func.isWrapper; first | (rw [if_pos (by decide +kernel)]; kernel_rfl) | (rw [if_neg (by decide +kernel)]; exact ⟨rfl, rfl⟩))
    (fun os started H enc _ F => by rw [OpenClaim.pre_eq_preRow]; exact lifted os started H enc F)

theorem plain (f : FuncId) (fn : Func) (hf : Tryd.pinned.checked.prog.funcNamed Rows.cmdlineMatchesReferenceUptoRow.func = some f) (hfn : Tryd.pinned.checked.prog.funcs[f]? = some fn) :
    false = Tryd.pinned.checked.prog.looks [] ∧ ∀ (j : Nat) t, fn.params[j]? = some t → Tryd.pinned.checked.prog.wantsStandIn t = false := by
  obtain rfl : f = 6 := Option.some.inj ((show Tryd.prog.funcNamed Rows.cmdlineMatchesReferenceUptoRow.func = some 6 by kernel_rfl).symm.trans hf) |>.symm
  obtain rfl : fn = Tryd.f6 := (Option.some.inj (Tryd.func6.symm.trans hfn)).symm
  refine ⟨by kernel_rfl, fun j t ht => ?_⟩
  have hall : (Tryd.f6.params.toList.all fun t => !Tryd.prog.wantsStandIn t) = true := by kernel_rfl
  have := List.all_eq_true.1 hall t (by simpa using Array.mem_of_getElem? ht)
  exact (by simpa using this : Tryd.prog.wantsStandIn t = false)

theorem card : Rows.CmdlineMatchesReferenceUptoCardSaid :=
  Claim7.holds_tied_plain_at .later [] _ _ _ _ said (fun _ h => by cases h) (by kernel_rfl) (fun _ h => by cases h) cmdlineMatchesReferenceUpto_row_tie rfl ⟨rfl, rfl⟩ (by kernel_rfl) rfl plain (by kernel_rfl)
end Go.Proofs.YtoipkcljmlfobaaDoor.cmdlineMatchesReference
