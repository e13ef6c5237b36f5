/- The reference's index, whose entries are written in place. No condition. -/
import Derived.Test.YtcjdagpadnahfaaGreatDoorB10
set_option linter.unusedVariables false
set_option linter.unusedSimpArgs false
set_option linter.unnecessarySimpa false
namespace Go.Proofs.YtcjdagpadnahfaaGreatDoor
open Go Go.AW
set_option maxRecDepth 100000
set_option maxHeartbeats 8000000

/-- The entries ahead of their offsets; the members they are of. -/
def z0 (l : List M) (i : Nat) : List En := (nmsD (l.take i)).map fun n => ⟨n, 0⟩
def ofL (l : List M) (i : Nat) : List Nat := (List.range i).flatMap fun j => ((defsO ((l.map M.data).getD j [])).map fun _ => j)
def refC (l : List M) : AV := .tup [bytes (cmpL l), entsV (idx l), ints (offs l), intV (fitsI l).2]
def natV (n : Nat) : AV := intV n
attribute [simp] natV
@[simp high] theorem frzL_natV (l : List Nat) : frzL (l.map natV) = l.map natV := by rw [frzL_map]; exact List.map_congr_left fun x _ => by simp
def zK (l : List M) (i : Nat) (d : List W) (k : Nat) : List En := z0 l i ++ entL 0 (d.take k)
def oK (l : List M) (i k : Nat) : List Nat := ofL l i ++ List.replicate k i
def stZ (σ : Store) (g : Nat) (z : List En) (o : List Nat) : Store := (σ.alloc (.arr 44 g (z.map entV))).alloc (.log 3 o.length)
@[simp] theorem stZ_next (σ : Store) (g : Nat) (z : List En) (o : List Nat) : (stZ σ g z o).next = σ.next + 2 := rfl
/-- The entries, of which the first k have their offsets. -/
def mix (A Z : List En) (k : Nat) : List En := A.take k ++ Z.drop k
end Go.Proofs.YtcjdagpadnahfaaGreatDoor
