/- Regions that draw their order: where every operation leaves the store alone, one walk in the order of the text serves every order. No condition. -/
import Derived.Test.YtkbklfodaemkoaaDoorAw11
import Derived.Still
set_option linter.unusedVariables false
set_option linter.unusedSimpArgs false
set_option linter.unnecessarySimpa false
namespace Go.AW
open Go

theorem aCall_congr {E : Env} {ow : List Nat} {own : Nat} {c : Call} {f g : Nat → AV} {σ : Store} {K : AV → Store → Prop} (h : ∀ x ∈ c.operands, aeval E.G f x = aeval E.G g x) : aCall E ow own c f σ K = aCall E ow own c g σ K := by
  have hargs : c.args.toList.map (aeval E.G f) = c.args.toList.map (aeval E.G g) := List.map_congr_left fun x hx => h x (by simp [Call.operands]; right; simpa using hx)
  have harg : ∀ x ∈ c.args.toList, aeval E.G f x = aeval E.G g x := fun x hx => h x (by simp [Call.operands]; right; simpa using hx)
  have hargs' : ∀ k, (c.args.toList.map fun x => argV ow k (aeval E.G f x)) = c.args.toList.map fun x => argV ow k (aeval E.G g x) := fun k => List.map_congr_left fun x hx => by rw [harg x hx]
  unfold aCall
  cases hc : c.callee with
  | value k =>
    have hfz : (c.args.toList.map fun x => frz (aeval E.G f x)) = c.args.toList.map fun x => frz (aeval E.G g x) := List.map_congr_left fun x hx => by rw [harg x hx]
    simp only [hargs, hargs', hfz, h k (by simp [Call.operands, hc])]
  | invoke r m => simp only [hargs', h r (by simp [Call.operands, hc])]
  | builtin b =>
    cases b <;> simp only [hargs]
    case append =>
      split
      · rename_i s x t u ha ht
        rw [harg s (by rw [ha]; simp), harg x (by rw [ha]; simp)]
      · rfl
    case len =>
      split
      · rename_i x t ha ht
        rw [harg x (by rw [ha]; simp)]
      · rfl
    case cap =>
      split
      · rename_i x t ha ht
        rw [harg x (by rw [ha]; simp)]
      · rfl
    case clear =>
      split
      · rename_i x t ha ht
        rw [harg x (by rw [ha]; simp)]
      · rfl
    case copy =>
      split
      · rename_i s x t u ha ht
        rw [harg s (by rw [ha]; simp), harg x (by rw [ha]; simp)]
      · rfl
    case delete =>
      split
      · rename_i s x t u ha ht
        rw [harg s (by rw [ha]; simp), harg x (by rw [ha]; simp)]
      · rfl

theorem opK_congr {E : Env} {ow : List Nat} {o : Oper} {f g : Nat → AV} {σ : Store} {K : AV → Store → Prop} (h : ∀ x ∈ o.op.operands, aeval E.G f x = aeval E.G g x) : opK E ow o f σ K = opK E ow o g σ K := by
  obtain ⟨dst, op, ty, pos, after, guard⟩ := o
  have pairs : ∀ ps : Array (Nat × Operand), (∀ p ∈ ps.toList, aeval E.G f p.2 = aeval E.G g p.2) → (ps.toList.map fun p => (p.1, aeval E.G f p.2)) = (ps.toList.map fun p => (p.1, aeval E.G g p.2)) := fun ps hp =>
    List.map_congr_left fun p hm => by rw [hp p hm]
  have hops : op.operands.toList.map (aeval E.G f) = op.operands.toList.map (aeval E.G g) := List.map_congr_left fun x hx => h x (by simpa using hx)
  cases op <;> simp only [opK] <;> try rw [hops]
  all_goals clear hops
  all_goals simp only [Op.operands] at h
  case build t ps => rw [pairs ps fun p hp => h p.2 (by simp only [List.mem_toArray, List.mem_map]; exact ⟨p, hp, rfl⟩)]
  case buildSlice t n ps => rw [pairs ps fun p hp => h p.2 (by simp only [List.mem_toArray, List.mem_map]; exact ⟨p, hp, rfl⟩)]
  case makeFunc fn first captured =>
    have h1 : first.toList.map (aeval E.G f) = first.toList.map (aeval E.G g) := List.map_congr_left fun x hx => h x (Array.mem_append.2 (.inl (by simpa using hx)))
    have h2 : captured.toList.map (aeval E.G f) = captured.toList.map (aeval E.G g) := List.map_congr_left fun x hx => h x (Array.mem_append.2 (.inr (by simpa using hx)))
    rw [h1, h2]
  case call c => exact aCall_congr h
  case slice t x lo hi mx =>
    have h1 : lo.map (aeval E.G f) = lo.map (aeval E.G g) := by
      cases lo with
      | none => rfl
      | some y => rw [Option.map_some, Option.map_some, h y (by simp)]
    have h2 : hi.map (aeval E.G f) = hi.map (aeval E.G g) := by
      cases hi with
      | none => rfl
      | some y => rw [Option.map_some, Option.map_some, h y (by simp)]
    cases mx with
    | none => simp only [h1, h2, h x (by simp)]
    | some y => simp only [h1, h2, h x (by simp), h y (by simp)]
  case pick c a b => rw [h c (by simp), h a (by simp), h b (by simp)]
  case store t x y => rw [h x (by simp), h y (by simp)]
  case binOp op t x y yt => rw [h x (by simp), h y (by simp)]
  case makeSlice t x y => rw [h x (by simp), h y (by simp)]
  case indexAddr t x y => rw [h x (by simp), h y (by simp)]
  case index t x y => rw [h x (by simp), h y (by simp)]
  case move x => rw [h x (by simp)]
  case assign x => rw [h x (by simp)]
  case box t x => rw [h x (by simp)]
  case load t x => rw [h x (by simp)]
  case nilCheck x => rw [h x (by simp)]
  case unOp op t x => rw [h x (by simp)]
  case convert s d x => rw [h x (by simp)]
  case makeInterface t x => rw [h x (by simp)]
  case fieldAddr t x i => rw [h x (by simp)]
  case field t x i => rw [h x (by simp)]
  case extract x i => rw [h x (by simp)]

section
variable {E : Env} {ow : List Nat} {N : Nat} {ops : Array Oper} {σ : Store} {md : Region.Mode}

/-- Operation i comes up; it leaves the store alone. -/
def qA (E : Env) (ow : List Nat) (N : Nat) (ops : Array Oper) (σ : Store) (i : Nat) (K : (Nat → AV) → Prop) (f : Nat → AV) : Prop :=
  match ops[i]? with
  | none => K f
  | some o => match aGuard ops f o with
    | some g => (g = true → ∃ a, opK E ow o f σ (fun a' σ' => a' = a ∧ σ' = σ) ∧ aput N f o.dst a K) ∧ (g = false → aput N f o.dst (.tup []) K)
    | none => False

def anyA (E : Env) (ow : List Nat) (N : Nat) (md : Region.Mode) (ops : Array Oper) (σ : Store) (Q : (Nat → AV) → Prop) : Nat → Array Bool → (Nat → AV) → Prop
  | 0, listed, f => Region.ready md ops listed = [] ∧ Q f
  | fuel + 1, listed, f => (Region.ready md ops listed = [] → Q f) ∧ ∀ i ∈ Region.ready md ops listed, qA E ow N ops σ i (anyA E ow N md ops σ Q fuel (listed.setIfInBounds i true)) f

/-- The walk in the order of the text. -/
def aopsQ (E : Env) (ow : List Nat) (N : Nat) (ops : Array Oper) (σ : Store) (Q : (Nat → AV) → Prop) : List Oper → (Nat → AV) → Prop
  | [], f => Q f
  | o :: l, f => match aGuard ops f o with
    | some g => (g = true → ∃ a, opK E ow o f σ (fun a' σ' => a' = a ∧ σ' = σ) ∧ aput N f o.dst a fun f' => aopsQ E ow N ops σ Q l f') ∧ (g = false → aput N f o.dst (.tup []) fun f' => aopsQ E ow N ops σ Q l f')
    | none => False

theorem aput_mono {f : Nat → AV} {d : Option Tmp} {a : AV} {K K' : (Nat → AV) → Prop} (h : ∀ f, K f → K' f) (hh : aput N f d a K) : aput N f d a K' := by
  unfold aput at *
  split
  · exact h _ hh
  · exact ⟨hh.1, h _ hh.2⟩

theorem qA_mono {i : Nat} {f : Nat → AV} {K K' : (Nat → AV) → Prop} (h : ∀ f, K f → K' f) (hh : qA E ow N ops σ i K f) : qA E ow N ops σ i K' f := by
  unfold qA at *
  split
  · rename_i ho; simp only [ho] at hh; exact h _ hh
  · rename_i o ho
    simp only [ho] at hh
    split
    · rename_i g hg
      simp only [hg] at hh
      exact ⟨fun e => let ⟨a, h1, h2⟩ := hh.1 e; ⟨a, h1, aput_mono h h2⟩, fun e => aput_mono h (hh.2 e)⟩
    · rename_i hg; simp only [hg] at hh

/-- In this frame operation o leaves a in its temporary. -/
def YieldsA (E : Env) (ow : List Nat) (N : Nat) (ops : Array Oper) (σ : Store) (o : Oper) (a : AV) (f : Nat → AV) : Prop :=
  (∀ d, o.dst = some d → d < N) ∧ ((aGuard ops f o = some true ∧ opK E ow o f σ (fun a' σ' => a' = a ∧ σ' = σ)) ∨ (aGuard ops f o = some false ∧ a = .tup []))

def fput (f : Nat → AV) (d : Option Tmp) (a : AV) : Nat → AV :=
  match d with
  | none => f
  | some d => upd f d a

theorem aput_iff {f : Nat → AV} {d : Option Tmp} {a : AV} {K : (Nat → AV) → Prop} : aput N f d a K ↔ (∀ e, d = some e → e < N) ∧ K (fput f d a) := by
  unfold aput fput
  cases d <;> simp

theorem YieldsA.qA {i : Nat} {o : Oper} {a : AV} {f : Nat → AV} (hi : ops[i]? = some o) (hy : YieldsA E ow N ops σ o a f) {K : (Nat → AV) → Prop} (h : K (fput f o.dst a)) : qA E ow N ops σ i K f := by
  unfold AW.qA
  simp only [hi]
  obtain ⟨hd, ⟨hg, ho⟩ | ⟨hg, rfl⟩⟩ := hy
  · simp only [hg]; exact ⟨fun _ => ⟨a, ho, aput_iff.2 ⟨hd, h⟩⟩, fun e => (nomatch e)⟩
  · simp only [hg]; exact ⟨fun e => (nomatch e), fun _ => aput_iff.2 ⟨hd, h⟩⟩

theorem yieldsA_of_qA {i : Nat} {o : Oper} {f : Nat → AV} {K : (Nat → AV) → Prop} (hi : ops[i]? = some o) (h : qA E ow N ops σ i K f) : ∃ a, YieldsA E ow N ops σ o a f ∧ K (fput f o.dst a) := by
  unfold qA at h
  simp only [hi] at h
  split at h
  · rename_i g hg
    cases g with
    | true =>
      obtain ⟨a, h1, h2⟩ := h.1 rfl
      obtain ⟨h3, h4⟩ := aput_iff.1 h2
      exact ⟨a, ⟨h3, .inl ⟨hg, h1⟩⟩, h4⟩
    | false =>
      obtain ⟨h3, h4⟩ := aput_iff.1 (h.2 rfl)
      exact ⟨_, ⟨h3, .inr ⟨hg, rfl⟩⟩, h4⟩
  · exact h.elim

theorem aeval_fput {G : Nat → Option (List AV)} {f : Nat → AV} {d : Option Tmp} {a : AV} {x : Operand} (h : ∀ e, d = some e → x ≠ .tmp e) : aeval G (fput f d a) x = aeval G f x := by
  cases d with
  | none => rfl
  | some e =>
    cases x with
    | tmp t =>
      have : t ≠ e := fun he => h e rfl (he ▸ rfl)
      simp [aeval, fput, upd, this]
    | _ => rfl

theorem opK_fput {o : Oper} {f : Nat → AV} {d : Option Tmp} {a : AV} {K : AV → Store → Prop} (h : ∀ e, d = some e → e ∉ o.looksAt ops) : opK E ow o (fput f d a) σ K = opK E ow o f σ K :=
  opK_congr fun x hx => aeval_fput fun e he hxe => h e he (by
    subst hxe
    exact List.mem_append_left _ (List.mem_filterMap.2 ⟨.tmp e, by simpa using hx, rfl⟩))

theorem aGuard_fput {o : Oper} {f : Nat → AV} {d : Option Tmp} {a : AV} (h : ∀ e, d = some e → e ∉ o.looksAt ops) : aGuard ops (fput f d a) o = aGuard ops f o := by
  cases d with
  | none => rfl
  | some e =>
    unfold aGuard
    cases hg : o.guard with
    | none => rfl
    | some gw =>
      obtain ⟨j, want⟩ := gw
      simp only
      cases hd : (ops[j]?).bind (·.dst) with
      | none => rfl
      | some t =>
        have hne : t ≠ e := fun he => h e rfl (by
          subst he
          unfold Oper.looksAt
          rw [hg]
          simp [hd])
        simp [fput, upd, hne]

theorem fput_comm {f : Nat → AV} {x y : Option Tmp} (u v : AV) (h : ∀ d, x = some d → y ≠ some d) : fput (fput f x u) y v = fput (fput f y v) x u := by
  cases x with
  | none => rfl
  | some d =>
    cases y with
    | none => rfl
    | some e =>
      have hne : d ≠ e := fun he => h d rfl (he ▸ rfl)
      funext t
      simp only [fput, upd]
      by_cases h1 : t = e
      · subst h1; simp [Ne.symm hne]
      · by_cases h2 : t = d
        · subst h2; simp [h1]
        · simp [h1, h2]

theorem YieldsA.keep {o : Oper} {a : AV} {f : Nat → AV} (hy : YieldsA E ow N ops σ o a f) {d : Option Tmp} (u : AV) (h : ∀ e, d = some e → e ∉ o.looksAt ops) : YieldsA E ow N ops σ o a (fput f d u) := by
  obtain ⟨h1, h2⟩ := hy
  refine ⟨h1, ?_⟩
  rw [aGuard_fput h]
  rcases h2 with ⟨hg, ho⟩ | h2
  · exact .inl ⟨hg, by rw [opK_fput h]; exact ho⟩
  · exact .inr h2

theorem qA_put {j : Nat} {oi oj : Oper} {a : AV} (hj : ops[j]? = some oj) (hap : oi.apart ops oj = true) {K : (Nat → AV) → Prop} {f : Nat → AV} (hy : YieldsA E ow N ops σ oi a f) (h : qA E ow N ops σ j K (fput f oi.dst a)) :
    qA E ow N ops σ j (fun f' => YieldsA E ow N ops σ oi a f' ∧ K (fput f' oi.dst a)) f := by
  obtain ⟨h1, h2, h3⟩ := Oper.apart_spec hap
  obtain ⟨b, hyb, hK⟩ := yieldsA_of_qA hj h
  have hyb' : YieldsA E ow N ops σ oj b f := by
    obtain ⟨k1, k2⟩ := hyb
    refine ⟨k1, ?_⟩
    rw [aGuard_fput h1] at k2
    rcases k2 with ⟨hg, ho⟩ | k2
    · exact .inl ⟨hg, by rwa [opK_fput h1] at ho⟩
    · exact .inr k2
  refine YieldsA.qA hj hyb' ⟨hy.keep b h3, ?_⟩
  rw [← fput_comm a b h2]
  exact hK

theorem anyA_first {Q : (Nat → AV) → Prop} {i : Nat} {oi : Oper} {a : AV} (hi : ops[i]? = some oi) :
    ∀ (fuel : Nat) (listed : Array Bool) (f : Nat → AV),
      (∀ j oj, ops[j]? = some oj → j ≠ i → listed.getD j true = false → (∀ e ∈ oj.after, Region.binds md e = true → e.on ≠ i) → oi.apart ops oj = true) →
      i ∈ Region.ready md ops listed → YieldsA E ow N ops σ oi a f →
      anyA E ow N md ops σ Q fuel (listed.setIfInBounds i true) (fput f oi.dst a) → anyA E ow N md ops σ Q (fuel + 1) listed f := by
  intro fuel
  induction fuel with
  | zero =>
    intro listed f _ hr hy H
    refine ⟨fun h => (by rw [h] at hr; cases hr), fun j hj => ?_⟩
    by_cases hji : j = i
    · subst hji; exact hy.qA hi H
    · have := ready_mono hj hji
      rw [H.1] at this
      cases this
  | succ fuel ih =>
    intro listed f hfree hr hy H
    refine ⟨fun h => (by rw [h] at hr; cases hr), fun j hj => ?_⟩
    by_cases hji : j = i
    · subst hji; exact hy.qA hi H
    · have h1 := H.2 j (ready_mono hj hji)
      obtain ⟨hjun, oj, hoj, hall⟩ := mem_ready.1 hj
      have hnot : ∀ e ∈ oj.after, Region.binds md e = true → e.on ≠ i := fun e he hb heq => by
        have h1 := hall e he hb
        have h0 := (mem_ready.1 hr).1
        rw [heq] at h1
        rcases Nat.lt_or_ge i listed.size with h' | h'
        · simp [h'] at h0 h1; rw [h0] at h1; cases h1
        · simp [Array.getElem?_eq_none h'] at h1
      have h2 := qA_put hoj (hfree j oj hoj hji hjun hnot) hy h1
      have hfree' : ∀ k ok, ops[k]? = some ok → k ≠ i → (listed.setIfInBounds j true).getD k true = false →
          (∀ e ∈ ok.after, Region.binds md e = true → e.on ≠ i) → oi.apart ops ok = true := fun k ok hk hki hun hno => by
        refine hfree k ok hk hki ?_ hno
        by_cases hjk : j = k
        · subst hjk; exact hjun
        · rw [getD_set_ne true hjk] at hun; exact hun
      refine qA_mono (fun f' h3 => ih (listed.setIfInBounds j true) f' hfree' (ready_mono hr (Ne.symm hji)) h3.1 ?_) h2
      rw [Array.setIfInBounds_comm _ _ hji]
      exact h3.2

theorem anyA_lex {Q : (Nat → AV) → Prop} : ∀ (l : List Oper) (k : Nat) (listed : Array Bool) (f : Nat → AV), (∀ j, l[j]? = ops[k + j]?) →
    Region.lexFrom md ops l.length k listed = true → aopsQ E ow N ops σ Q l f → anyA E ow N md ops σ Q l.length listed f
  | [], _, _, _, _, hB, h => ⟨by simpa [Region.lexFrom] using hB, h⟩
  | o :: l, k, listed, f, hl, hB, h => by
    have h0 : ops[k]? = some o := by simpa using (hl 0).symm
    simp only [List.length_cons, Region.lexFrom, Bool.and_eq_true] at hB
    obtain ⟨⟨hr, hf⟩, hB'⟩ := hB
    have hst : qA E ow N ops σ k (aopsQ E ow N ops σ Q l) f := by unfold qA; simp only [h0]; exact h
    obtain ⟨a, hy, hK⟩ := yieldsA_of_qA h0 hst
    exact anyA_first h0 l.length listed f (Region.free_spec h0 hf) (by simpa using hr) hy
      (anyA_lex l (k + 1) _ _ (fun j => by have := hl (j + 1); simpa [Nat.add_assoc, Nat.add_comm 1 j] using this) hB' hK)

theorem anyA_ok {n : Nat} {Γ0 : Ctx} {w0 : World} {rd : Option Nat} {ds0 : List Deferred × Nat} {Q : (Nat → AV) → Prop} {Q' : Exit → Act → World → Prop}
    (hQ : ∀ Γ w f a, ExtN n Γ0 w0 Γ w → R E Γ σ w → TR N Γ w f a.tmps → Marks w ds0 a.defers → Q f → Q' .normal a w)
    (hP : ∀ v w a, PanRes E n Γ0 w0 v w → Marks w ds0 a.defers → Q' (.panic [{ v := v, recovered := false }]) a w) :
    ∀ (fuel : Nat) (listed : Array Bool) (f : Nat → AV) (Γ : Ctx) (w : World) (a : Act), ExtN n Γ0 w0 Γ w → R E Γ σ w → TR N Γ w f a.tmps → Marks w ds0 a.defers → anyA E ow N md ops σ Q fuel listed f → wpAnyIn (wideR rd) 0 E.P md ops Q' fuel listed a w
  | 0, listed, f, Γ, w, a, hx, hr, ht, hd, h => ⟨h.1, hQ Γ w f a hx hr ht hd h.2⟩
  | fuel + 1, listed, f, Γ, w, a, hx, hr, ht, hd, h => by
    refine ⟨fun h0 => hQ Γ w f a hx hr ht hd (h.1 h0), fun i hi => ?_⟩
    have h1 := h.2 i hi
    unfold wpOpIn
    unfold qA at h1
    split
    · rename_i ho
      simp only [ho] at h1
      exact anyA_ok hQ hP fuel _ f Γ w a hx hr ht hd h1
    · rename_i o ho
      simp only [ho] at h1
      split at h1
      · rename_i g hg
        cases g with
        | true =>
          obtain ⟨x, hx1, hx2⟩ := h1.1 rfl
          rw [if_pos (aGuard_ok ht hg)]
          refine Up.upon (opK_ok (ρ := a.eval) hr (fun x _ => ht.eval hr x) (fun _ => rfl) hx1) (opK_defer hx1) ?_ ?_
          · rintro v w' ⟨Γ', y, σ', k1, k2, k3, e1, e2⟩
            rw [e2] at k2
            rw [e1] at k3
            obtain ⟨f', ht', hk, hd'⟩ := aput_ok (ht.ext k1) k3 hx2
            exact anyA_ok hQ hP fuel _ f' Γ' w' _ (hx.trans (k1.mono hx.le')) k2 ht' (by rw [hd']; exact hd.ext hr k1) hk
          · intro v w' h
            obtain ⟨Γ', h1⟩ := h.ext
            exact hP v w' a (.of_res hx h) (hd.ext hr h1)
        | false =>
          rw [if_neg (by rw [aGuard_ok ht hg]; simp)]
          obtain ⟨f', ht', hk, hd'⟩ := aput_ok ht (VR.undef_ Γ w) (h1.2 rfl)
          exact ⟨fun _ _ => trivial, anyA_ok hQ hP fuel _ f' Γ w _ hx hr ht' (by rw [hd']; exact hd) hk⟩
      · exact h1.elim

end

section
variable {E : Env} {n N : Nat} {f : Nat → AV} {σ : Store} {Q : AExit → (Nat → AV) → Store → Prop}

theorem R.drew {E : Env} {Γ : Ctx} {σ : Store} {w : World} (hr : R E Γ σ w) : ExtN Γ.next Γ w Γ { w with drawn := w.drawn + 1 } ∧ R E Γ σ { w with drawn := w.drawn + 1 } :=
  hr.same_ctx ⟨rfl, rfl, rfl, Nat.le_refl _, fun _ _ _ => rfl⟩

/-- A region that draws its order and leaves the store alone. -/
theorem AW.draw (ow : List Nat) {id : Nat} {l : List Oper} (hm : E.P.follows .mixedOrders = true) (hB : Region.lexFrom .any l.toArray l.length 0 (Array.replicate l.length false) = true) (h : aopsQ E ow N l.toArray σ (fun f => Q .normal f σ) l f) :
    AW E n N (.region id l.toArray true) f σ Q := by
  intro rd ds0 Γ w a hn hr ht hd
  obtain ⟨hx, hr'⟩ := hr.drew
  refine wpIn_region_any hm ?_
  refine anyA_ok (E := E) (ow := ow) (N := N) (σ := σ) (n := n) (Γ0 := Γ) (w0 := w) (rd := rd) (ds0 := ds0) (Q := fun f => Q .normal f σ) ?_ ?_ _ _ f Γ _ a (hx.mono hn) hr' (ht.ext hx) (hd.ext hr hx) ?_
  · intro Γ' w' f' a' hx' hr'' ht' hd' hq
    exact .inl ⟨Γ', f', σ, .normal, trivial, hx', hr'', ht', hd', hq⟩
  · intro v w' a' hp hm
    exact .inr ⟨v, rfl, hp, hm⟩
  · have := anyA_lex (E := E) (ow := ow) (N := N) (σ := σ) (md := .any) (ops := l.toArray) l 0 (Array.replicate l.length false) f (by simp) hB h
    simpa using this

theorem AW.stepD (ow : List Nat) {id : Nat} {l : List Oper} {d : Code} (hm : E.P.follows .mixedOrders = true) (hB : Region.lexFrom .any l.toArray l.length 0 (Array.replicate l.length false) = true)
    (h : ∀ K : (Nat → AV) → Store → Prop, (∀ f σ, AW E n N d f σ Q → K f σ) → aopsQ E ow N l.toArray σ (fun f => K f σ) l f) : AW E n N (.seq (.region id l.toArray true) d) f σ Q :=
  AW.seq_k fun K hK => AW.draw ow hm hB (h K hK)
end

end Go.AW
