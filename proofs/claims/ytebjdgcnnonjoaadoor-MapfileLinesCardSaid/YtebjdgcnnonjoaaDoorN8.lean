/- The law's fixed cases. No condition. -/
import Derived.Test.YtebjdgcnnonjoaaDoorGG
import Derived.Test.YtebjdgcnnonjoaaDoorN5
set_option linter.unusedVariables false
set_option linter.unusedSimpArgs false
set_option linter.unnecessarySimpa false
namespace Go.Proofs.YtebjdgcnnonjoaaDoor
open Go Go.AW
set_option maxRecDepth 100000
set_option maxHeartbeats 100000000

def m0 : Mp := ⟨[⟨[97, 46, 111], [], 0⟩, ⟨[120, 46, 97], [109, 32, 110], 3⟩], [⟨[102], 1, 4, 0, 1⟩, ⟨[103], 4, 0, 0, -1⟩], [⟨[99], 8, 2⟩]⟩
def T0 : W := [117,110,105,116,32,97,46,111,10,117,110,105,116,32,120,46,97,32,109,37,50,48,110,32,51,10,115,121,109,98,111,108,32,102,32,115,116,114,111,110,103,32,52,32,48,32,49,10,115,121,109,98,111,108,32,103,32,117,110,100,101,102,32,48,32,48,32,45,10,115,108,111,116,32,99,32,56,32,50,10,101,110,100,10]
theorem m0_pr : m0.pr = T0 := by
  simp [m0, T0, Mp.pr, Mp.txt, prU, prS, prT, U.ws, Sy.ws, Sl.ws, lnW, jn, esc, esc1, plainB, hx, hexs, nt, tx_lt, dg, bnd, bnames, wUnit, wSymbol, wSlot, wEnd]
theorem m0_ok : m0.ok = true := by decide
theorem p0 : parseP T0 = (m0, 0, true) := by rw [← m0_pr]; exact parseP_pr m0_ok
def T1 : W := [117,110,105,116,32,97,46,111,10,117,110,105,116,32,120,46,97,32,109,32,48,51,10,101,110,100,10]
theorem p1 : parseP T1 = (Mp.e, 2, false) := by
  have h : numOk [48, 51] = false := by
    simp [numOk, vl, tx_lt, dg]
  simp [T1, parseP, sp, spA, goP, lineP, wsP, unitP, nmW, un, numW, h, wUnit, plainB, Ln.ph]
theorem awake_p : Pur E 8 [] (boolV true) := by
  have a1 := Parse_p T0 (by decide)
  rw [p0] at a1
  have a2 := Parse_p T1 (by decide)
  rw [p1] at a2
  have u1 := Unescape_p [97, 37, 50, 48, 98, 37, 50, 53] (by decide)
  rw [show unV [97, 37, 50, 48, 98, 37, 50, 53] = ([97, 32, 98, 37], true) by decide] at u1
  have u2 := Unescape_p [37, 52, 49] (by decide)
  rw [show unV [37, 52, 49] = ([], false) by decide] at u2
  have e1 := Escape_p [97, 32, 98, 37] (by decide)
  rw [show esc [97, 32, 98, 37] = [97, 37, 50, 48, 98, 37, 50, 53] by decide] at e1
  have q1 := Print_p m0 m0_ok (by rw [m0_pr]; decide)
  rw [m0_pr] at q1
  have q0 := Print_p Mp.e (by decide) (by decide)
  rw [show Mp.e.pr = [101, 110, 100, 10] by decide] at q0
  refine Pur.enter [] Tryd.func8 rfl Tryd.ntmps8 Tryd.results8 hmE (by kernel_rfl) (by simp) (fun _ => .c _) fun σ hσ => ?_
  conv => arg 5; cbv
  simp
  refine Pur.call a1 ?_
  simp [prsV, mpV]
  refine Pur.call a2 ?_
  simp [prsV, mpV]
  refine Pur.call u1 ?_
  simp
  refine Pur.call u2 ?_
  simp
  refine Pur.call e1 ?_
  simp
  refine Pur.call q0 ?_
  simp
  refine Pur.call q1 ?_
  simp [m0, T0]
end Go.Proofs.YtebjdgcnnonjoaaDoor
