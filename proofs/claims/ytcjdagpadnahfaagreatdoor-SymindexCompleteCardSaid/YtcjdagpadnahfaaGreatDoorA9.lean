/- What is written, by the program and by the reference. No condition. -/
import Derived.Test.YtcjdagpadnahfaaGreatDoorA8
set_option linter.unusedVariables false
set_option linter.unusedSimpArgs false
set_option linter.unnecessarySimpa false
namespace Go.Proofs.YtcjdagpadnahfaaGreatDoor
open Go Go.AW
set_option maxRecDepth 100000
set_option maxHeartbeats 8000000

def outL (hm : Bool) (m : W) (l : List M) : W := if (fitsI l).2 = 0 then magic ++ eachL hm m l else []
def outV (hm : Bool) (m : W) (l : List M) : AV := .tup [bytes (outL hm m l), intV (fitsI l).2]
attribute [simp] outV
theorem isWr_new (σ : Store) : isWr ((σ.alloc (.log 5 8)).alloc (.arr 94 0 [.agg [.lg σ.next (magic.map byteV), intV 0]])) (σ.next + 1) σ.next magic := ⟨by simp [wrV], by simp [magic]⟩
theorem Write_p (hm : Bool) (m : W) (l : List M) (hmm : m.length ≤ 2000000) (hl : fewM l) : Pur E 24 [boolV hm, bytes m, memsV l] (outV hm m l) := by
  refine Pur.enter [2000019, 2000020] Tryz.func24 rfl Tryz.ntmps24 Tryz.results24 hmE (by kernel_rfl) (by simp) (by simp) fun σ hσ => ?_
  conv => arg 5; cbv
  simp
  refine Pur.call (AFits_p l hl) ?_
  simp
  refine ⟨fun h0 => ?_, fun h0 => ?_⟩
  · simp [outL, h0]
  · have he := each_c hm m l hmm hl h0 _ _ magic (by simp [magic]) _ (isWr_new σ)
    simp [magic] at he
    refine he.mono ?_
    rintro a s ⟨rfl, rfl⟩
    simp [wr_get, wrV]
    refine ⟨⟨by simp [outL, h0, magic], h0.symm⟩, by simp, fun j hj => ?_⟩
    rw [wr_get]
    simp [show ¬ j = σ.next by omega, show ¬ j = σ.next + 1 by omega]
/-- The positions. -/
def offsL (base : Nat) (z : List (M × W)) (j : Nat) : List Int := (List.range j).map fun i => ((base + (memsL (z.take i)).length : Nat) : Int)
@[simp] theorem offsL_len (base : Nat) (z : List (M × W)) (j : Nat) : (offsL base z j).length = j := by simp [offsL]
def baseL (hm : Bool) (m : W) (l : List M) : W := magic ++ (preMap hm m ++ preTab (nmsT l))
def refO (hm : Bool) (m : W) (l : List M) : List Int := if (fitsI l).2 = 0 then offsL (baseL hm m l).length (zipL l) l.length else []
def refV (hm : Bool) (m : W) (l : List M) : AV := .tup [bytes (outL hm m l), ints (refO hm m l), intV (fitsI l).2]
attribute [simp] refV
end Go.Proofs.YtcjdagpadnahfaaGreatDoor
