/- Contracts of the library's functions, as the walks want them. No condition. -/
import Derived.Test.YtkbklfodaemkoaaDoorAw21
import Derived.Lib.LaidTab
import Derived.Below
set_option linter.unusedVariables false
set_option linter.unusedSimpArgs false
set_option linter.unnecessarySimpa false
namespace Go.AW
open Go
theorem grown_of_below {w w' : World} (h : Go.RowKit.Below w.heap.size w w') : w.grownBy w' none := ⟨h.os, h.tape, h.output, h.size, fun k hk _ => h.block k hk⟩
theorem grown_refl (w : World) : w.grownBy w none := ⟨rfl, rfl, rfl, Nat.le_refl _, fun _ _ _ => rfl⟩
/-- Arguments that are single cells. -/
theorem vrs_c {Γ : Ctx} {w : World} : ∀ {cs vs : List Value}, VRs Γ w (cs.map AV.c) vs → vs = cs
  | [], [], _ => rfl
  | [], _ :: _, h => by simp [VRs] at h
  | _ :: _, [], h => by simp [VRs] at h
  | c :: cs, v :: vs, h => by
    have h0 := h.2 0 (.c c) v rfl rfl
    cases h0
    rw [vrs_c (cs := cs) (vs := vs) ⟨by simpa using h.1, fun j a v ha hv => h.2 (j + 1) a v (by simpa using ha) (by simpa using hv)⟩]
/-- A library's contract that leaves the world as it was, but for new blocks. -/
theorem Pur.lib {E : Env} {k : FuncId} {v : Value} (cs : List Value) (hv : v.oneCell' = true) (h : ∀ Γ σ w, R E Γ σ w → Calls E.P k cs.toArray w fun e w' => e = .returned v ∧ w.grownBy w' none) : Pur E k (cs.map AV.c) (.c v) := by
  intro σ Γ w vs hr hvs
  have hvs := vrs_c hvs
  have : vs = cs.toArray := by rw [← hvs]
  subst this
  refine (h Γ σ w hr).mono ?_
  rintro e w' ⟨rfl, hg⟩
  obtain ⟨h1, h2⟩ := hr.same_ctx hg
  exact .inl ⟨v, rfl, Γ, .c v, σ, h1, h2, .c v hv, rfl, rfl⟩
/-- A table of whole numbers. -/
theorem R.tab {E : Env} {Γ : Ctx} {σ : Store} {w : World} (hr : R E Γ σ w) {g : Nat} {name : String} {k : IntKind} {zs : List Int} (hn : E.P.globalNamed name = some g) (hg : E.G g = some (zs.map fun z => .c (.int k z))) : Lib.TabIs E.P w name k zs := by
  obtain ⟨h1, h2, xs, t, fr, h3, h4⟩ := hr.glob g _ hg
  unfold Lib.TabIs World.var?
  rw [hn]
  simp only [Option.bind_some, h3, Option.some.injEq]
  rw [List.length_map] at h4
  refine Array.ext (by simp [h4]) fun i hi hi' => ?_
  obtain ⟨b, o, e, _, _, hc⟩ := h1.pp_cells
  cases e
  obtain ⟨u, u1, u2, u3⟩ := hc i (.c (.int k (zs[i]'(by omega)))) (by simp [List.getElem?_eq_getElem (show i < zs.length by omega)])
  have hu : xs[i]? = some u := by simpa [World.cell?, h3] using u1
  rw [Array.getElem?_eq_getElem hi] at hu
  rw [Option.some.inj hu]
  cases u3
  simp
end Go.AW
