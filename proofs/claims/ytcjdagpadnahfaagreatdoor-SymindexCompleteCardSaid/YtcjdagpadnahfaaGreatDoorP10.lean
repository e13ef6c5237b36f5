/- Archives written and read back: the laws. No condition. -/
import Derived.Test.YtcjdagpadnahfaaGreatDoorP9
set_option linter.unusedVariables false
set_option linter.unusedSimpArgs false
set_option linter.unnecessarySimpa false
namespace Go.Proofs.YtcjdagpadnahfaaGreatDoor
open Go Go.AW
set_option maxRecDepth 100000
set_option maxHeartbeats 8000000

def l25 : List M := [⟨[97, 46, 111], 0, 0, 0, 0, [120]⟩, ⟨[97, 45, 118, 101, 114, 121, 45, 108, 111, 110, 103, 45, 110, 97, 109, 101, 46, 111], 0, 0, 0, 0, []⟩]
def l15 : List M := [⟨[97, 47, 98], 0, 0, 0, 0, []⟩]
def lb5 : List M := [⟨[97], 0, 0, 0, 0, []⟩, ⟨[98], 0, 0, 0, -1, []⟩]
theorem preMap_len5 (hm : Bool) (m : W) : (preMap hm m).length ≤ 61 + m.length := by
  have := partL_len hMap m
  cases hm with
  | true => simpa [preMap] using this
  | false => simp [preMap]
theorem preTab_len5 (t : W) : (preTab t).length ≤ 61 + t.length := by
  have := partL_len hTab t
  unfold preTab
  split
  · simp
  · exact this
/-- Whole numbers as they are. -/
def inR5 (l : List M) : Prop := ∀ m ∈ l, m.t < 9223372036854775808 ∧ m.u < 9223372036854775808 ∧ m.g < 9223372036854775808 ∧ m.m < 9223372036854775808
theorem memsL_len5 (z : List (M × W)) (hz : ∀ p ∈ z, p.1.data.length ≤ 1000) : (memsL z).length ≤ 1061 * z.length := by
  induction z with
  | nil => simp [memsL]
  | cons p z ih =>
    have h1 := hz p (by simp)
    have h2 := ih fun p hp => hz p (by simp [hp])
    have h3 := partL_len (hdrM p.1 p.2) p.1.data
    simp [memsL] at h2 ⊢
    omega
theorem bld_len5 (l : List W) (hl : ∀ n ∈ l, n.length ≤ 300) : (bld l).1.length ≤ 302 * l.length := by
  induction l using rev_ind with
  | h0 => simp [bld]
  | h1 l n ih =>
    have h1 := ih fun n hn => hl n (by simp [hn])
    have h2 := hl n (by simp)
    rw [bld_snoc]
    unfold bldS
    split <;> simp <;> omega
end Go.Proofs.YtcjdagpadnahfaaGreatDoor
