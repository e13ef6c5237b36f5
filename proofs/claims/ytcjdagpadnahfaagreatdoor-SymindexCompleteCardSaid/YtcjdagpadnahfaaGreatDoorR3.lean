/- What was read from any archive can be written. No condition, no program. -/
import Derived.Test.YtcjdagpadnahfaaGreatDoorR2
set_option linter.unusedVariables false
set_option linter.unusedSimpArgs false
set_option linter.unnecessarySimpa false
namespace Go.Proofs.YtcjdagpadnahfaaGreatDoor
open Go Go.AW
set_option maxRecDepth 100000
set_option maxHeartbeats 8000000

theorem prs_ok {l : W} {b : Nat} (hb : b = 8 ∨ b = 10) (h : prsE l b = 0) : fmtE (prsN l b : Nat) b l.length = 0 ∧ (prsN l b) < 10 ^ 18 := by
  have hg : ¬ (¬ ((b : Int) = 8 ∨ (b : Int) = 10) ∨ l.length < 1 ∨ 18 < l.length) := by
    intro hg; rw [prsE, if_pos hg] at h; omega
  have hok : okf b l := by
    rw [prsE, if_neg hg] at h
    split at h
    · rename_i h1; simpa using h1
    · omega
  have hN : prsN l b = vl b (ld b l) := by rw [prsN, if_pos h]; simp
  obtain ⟨h1, h2, h3⟩ := (okf_iff b l hb (by omega)).1 hok
  refine ⟨by rw [hN]; exact h2, ?_⟩
  rw [hN]
  have hv := vl_lt b (by omega) (ld b l) (ld_isd b l)
  have hsp := congrArg List.length (ld_split b l)
  simp at hsp
  have h5 : b ^ (ld b l).length ≤ 10 ^ (ld b l).length := Nat.pow_le_pow_left (by omega) _
  have h6 : 10 ^ (ld b l).length ≤ 10 ^ 18 := Nat.pow_le_pow_right (by omega) (by omega)
  omega
theorem fld_ok {l : W} {b v : Nat} {w : Int} (hb : b = 8 ∨ b = 10) (hl : (l.length : Int) = w) (h : fldN l b false = some v) : fldOk v b w false = true ∧ v < 10 ^ 18 := by
  simp only [fldN] at h
  simp at h
  obtain ⟨h1, rfl⟩ := h
  obtain ⟨h2, h3⟩ := prs_ok hb h1
  refine ⟨?_, h3⟩
  simp [fldOk, ← hl, h2]
theorem cut_len {b : W} {i n : Nat} (h : i + n ≤ b.length) : (cutP b i n).length = n := by simp [cutP]; omega
/-- The numbers of a member fit. -/
def numM (m : M) : Prop := fldOk m.t 10 12 false = true ∧ fldOk m.u 10 6 false = true ∧ fldOk m.g 10 6 false = true ∧ fldOk m.m 8 8 false = true ∧ m.t < 10 ^ 18 ∧ m.u < 10 ^ 18 ∧ m.g < 10 ^ 18 ∧ m.m < 10 ^ 18
def PS.inv (x : PS) : Prop := (x.hm = false → x.mp = []) ∧ entE x.tab = 0 ∧ ∀ m ∈ x.mem, validN m.name = true ∧ numM m
end Go.Proofs.YtcjdagpadnahfaaGreatDoor
