/- How the arguments of a call read as abstract values, how a whole law's answer closes its row. No condition. -/
import Derived.Test.YtkbklfodaemkoaaDoorAw12
import Derived.Carry
import Derived.OpenShut
import Derived.DataReads
set_option linter.unusedVariables false
set_option linter.unusedSimpArgs false
set_option linter.unnecessarySimpa false
namespace Go.AW
open Go

/-! ### What an abstract value of a plain type is -/
def RdParts (r : TypeId → AV → Prop) : List Field → List AV → Prop
  | [], cs => cs = []
  | f :: fs, cs => ∃ a cs', cs = a.cells ++ cs' ∧ r f.type a ∧ RdParts r fs cs'

def Rd (P : Program) : Nat → TypeId → AV → Prop
  | 0, _, _ => False
  | n + 1, t, a =>
    match P.underlying t with
    | some .bool => ∃ b, a = .c (.bool b)
    | some (.int k) => ∃ z, a = .c (.int k z) ∧ k.min ≤ z ∧ z ≤ k.max
    | some .string => ∃ s : ByteArray, a = .c (.string s) ∧ s.size ≤ maxLen
    | some (.slice e) => ∃ es, a = .ps es ∧ es.length ≤ maxLen ∧ ∀ x ∈ es, Rd P n e x
    | some (.struct fs) => ∃ cs, a = .agg cs ∧ RdParts (Rd P n) fs.toList cs
    | _ => False

def tilesB (P : Program) : List Field → Nat → Nat → Bool
  | [], o, n => o == n
  | f :: fs, o, n => f.offset == o && tilesB P fs (o + P.cellsOf f.type) n

def plainB (P : Program) : Nat → TypeId → Bool
  | 0, _ => false
  | n + 1, t =>
    match P.underlying t with
    | some .bool => true
    | some (.int _) => true
    | some .string => true
    | some (.slice e) => decide (P.cellsOf e ≠ 0) && plainB P n e
    | some (.struct fs) => tilesB P fs.toList 0 (P.cellsOf t) && fs.toList.all fun f => plainB P n f.type
    | _ => false

mutual
def blk : AV → Nat
  | .c (.string s) => s.size + 1
  | .ps es => blkAll es + 1
  | .agg cs => blkAll cs + 1
  | _ => 1
def blkAll : List AV → Nat
  | [] => 0
  | a :: l => blk a + blkAll l
end

mutual
/-- What a reading says, as an abstract value. -/
def avOf {H : Type} : DataW H → AV
  | .lit (.bool b) => .c (.bool b)
  | .lit (.int k z) => .c (.int k z)
  | .lit (.string l) => .c (.string ⟨l.toArray⟩)
  | .nil => .ps []
  | .slice e _ => .ps (avOfs e)
  | .agg p => .agg (avCells p)
  | _ => .junk
def avOfs {H : Type} : List (DataW H) → List AV
  | [] => []
  | d :: r => avOf d :: avOfs r
def avCells {H : Type} : List (DataW H) → List AV
  | [] => []
  | d :: r => (avOf d).cells ++ avCells r
end
theorem avOfs_get {H : Type} : ∀ (l : List (DataW H)) (i : Nat), (avOfs l)[i]? = (l[i]?).map avOf
  | [], i => by simp [avOfs]
  | d :: l, 0 => by simp [avOfs]
  | d :: l, i + 1 => by simp [avOfs, avOfs_get l i]

theorem blkAll_append (a b : List AV) : blkAll (a ++ b) = blkAll a + blkAll b := by
  induction a with
  | nil => simp [blkAll]
  | cons x a ih => simp only [List.cons_append, blkAll, ih]; omega

theorem blk_cells (a : AV) : blkAll a.cells ≤ blk a := by
  have h1 : ∀ x : AV, blkAll [x] = blk x := fun x => by rw [blkAll, blkAll]; rfl
  cases a with
  | agg cs => rw [blk]; exact Nat.le_succ _
  | _ => exact Nat.le_of_eq (h1 _)

structure BulkOk {H : Type} (B : DataW H → Nat) (BL : List (DataW H) → Nat) : Prop where
  lit : ∀ l, 1 ≤ B (.lit l)
  str : ∀ s, B (.lit (.string s)) = s.length + 1
  nil : B .nil = 1
  slice : ∀ e s, B (.slice e s) = BL e + BL s + 1
  agg : ∀ p, B (.agg p) = BL p + 1
  nilL : BL [] = 0
  cons : ∀ d r, BL (d :: r) = B d + BL r

theorem exists_list {α : Type} (n : Nat) (Q : Nat → α → Prop) (h : ∀ i, i < n → ∃ x, Q i x) : ∃ l : List α, l.length = n ∧ ∀ (i : Nat) (x : α), l[i]? = some x → Q i x := by
  induction n with
  | zero => exact ⟨[], rfl, fun i x h => by simp at h⟩
  | succ n ih =>
    obtain ⟨l, hl, hq⟩ := ih fun i hi => h i (by omega)
    obtain ⟨x, hx⟩ := h n (by omega)
    refine ⟨l ++ [x], by simp [hl], fun i y hy => ?_⟩
    rw [List.getElem?_append] at hy
    split at hy
    · exact hq i y hy
    · rename_i hi
      have : i = n := by
        have := (List.getElem?_eq_some_iff.1 hy).1
        simp at this; omega
      subst this
      simp [hl] at hy
      subst hy; exact hx

section
variable {H : Type} {enc : TypeId × Value → H} {P : Program} {w : World} {sp : Nat → Bool} {held : Bool} {B : DataW H → Nat} {BL : List (DataW H) → Nat}

theorem blkAll_le (hB : BulkOk B BL) : ∀ (es : List AV) (ds : List (DataW H)), es.length = ds.length → (∀ (i : Nat) (a : AV) (d : DataW H), es[i]? = some a → ds[i]? = some d → blk a ≤ B d) → blkAll es ≤ BL ds
  | [], [], _, _ => by simp [blkAll]
  | a :: es, d :: ds, hl, h => by
    have h0 := h 0 a d rfl rfl
    have := blkAll_le hB es ds (by simpa using hl) fun i a d ha hd => h (i + 1) a d (by simpa using ha) (by simpa using hd)
    rw [hB.cons]
    simp only [blkAll]; omega

theorem parts_of (hB : BulkOk B BL) {Γ : Ctx} {r : TypeId → AV → Prop} {g : Field → Option (DataW H × List MemPlace)} {cs : List Value} {n : Nat} (hn : cs.length = n) :
    ∀ (fs : List Field) (o : Nat) (xs : List (DataW H × List MemPlace)), tilesB P fs o n = true → fs.mapM g = some xs →
      (∀ f ∈ fs, ∀ x, g f = some x → ∃ a, r f.type a ∧ CellsRel Γ w a.cells ((cs.drop f.offset).take (P.cellsOf f.type)) ∧ blk a ≤ B x.1 ∧ a = avOf x.1) →
      ∃ as, RdParts r fs as ∧ CellsRel Γ w as (cs.drop o) ∧ blkAll as ≤ BL (xs.map (·.1)) ∧ as = avCells (xs.map (·.1))
  | [], o, xs, ht, hm, _ => by
    simp only [tilesB, beq_iff_eq] at ht
    have hxs : xs = [] := by simpa using hm.symm
    refine ⟨[], rfl, ?_, by simp [blkAll], by rw [hxs]; rfl⟩
    rw [List.drop_eq_nil_of_le (by omega)]
    exact ⟨rfl, by simp, by intro j x u h; simp at h⟩
  | f :: fs, o, xs, ht, hm, h => by
    simp only [tilesB, Bool.and_eq_true, beq_iff_eq] at ht
    obtain ⟨h1, h2⟩ := ht
    rw [List.mapM_cons] at hm
    cases hg : g f with
    | none => simp [hg] at hm
    | some x =>
      cases hgs : fs.mapM g with
      | none => simp [hg, hgs] at hm
      | some ys =>
        simp [hg, hgs] at hm
        subst hm
        obtain ⟨a, ha, hc, hb, hav⟩ := h f (by simp) x hg
        obtain ⟨as, hr, hcs, hbs, havs⟩ := parts_of hB hn fs (o + P.cellsOf f.type) ys h2 hgs fun f' hf' => h f' (by simp [hf'])
        refine ⟨a.cells ++ as, ⟨a, as, rfl, ha, hr⟩, ?_, ?_, by rw [List.map_cons, avCells, ← havs, ← hav]⟩
        · have e : cs.drop o = (cs.drop f.offset).take (P.cellsOf f.type) ++ cs.drop (o + P.cellsOf f.type) := by
            rw [h1, ← List.drop_drop, List.take_append_drop]
          rw [e]
          exact hc.append hcs
        · rw [blkAll_append, List.map_cons, hB.cons]
          have := blk_cells a
          omega

theorem cells_one {Γ : Ctx} {a : AV} {v : Value} (ha : a.cells = [a]) (hv : v.oneCell' = true) (h : VR Γ w a v) : CellsRel Γ w a.cells [v] := by
  rw [ha]
  refine ⟨rfl, by simpa using hv, fun j x u hx hu => ?_⟩
  cases j with
  | zero => simp at hx hu; subst hx; subst hu; exact h
  | succ j => simp at hx

theorem rd_of_trod (hB : BulkOk B BL) {Γ : Ctx} (hΓ : ∀ b, ¬ Γ.owns b) : ∀ (F n : Nat) (t : TypeId) (cs : List Value) (d : DataW H) (ps : List MemPlace), plainB P n t = true →
    DataW.trod enc P w 0 sp held F t cs = some (d, ps) → ∃ a, Rd P n t a ∧ CellsRel Γ w a.cells cs ∧ blk a ≤ B d ∧ a = avOf d
  | 0, _, _, _, _, _, _, h => by simp [DataW.trod] at h
  | _ + 1, 0, _, _, _, _, hp, _ => by simp [plainB] at hp
  | F + 1, n + 1, t, cs, d, ps, hp, h => by
    unfold plainB at hp
    unfold Rd
    unfold DataW.trod at h
    split at h <;> rename_i hu
    all_goals (try (simp only [hu, Bool.false_eq_true] at hp; done))
    all_goals (try simp only [hu] at hp ⊢)
    · rename_i b
      simp only [Option.some.injEq, Prod.mk.injEq] at h
      obtain ⟨rfl, rfl⟩ := h
      exact ⟨_, ⟨b, rfl⟩, cells_one rfl rfl (.c _ rfl), by simpa [blk] using hB.lit _, by rw [avOf]⟩
    · rename_i k k' z
      split at h
      · rename_i hk
        simp only [Option.some.injEq, Prod.mk.injEq] at h
        obtain ⟨rfl, rfl⟩ := h
        obtain ⟨rfl, hw⟩ := hk
        simp only [Lit.wf, Bool.and_eq_true, decide_eq_true_eq] at hw
        exact ⟨_, ⟨z, rfl, hw.1, hw.2⟩, cells_one rfl rfl (.c _ rfl), by simpa [blk] using hB.lit _, by rw [avOf]⟩
      · cases h
    · rename_i s
      split at h
      · rename_i hs
        simp only [Option.some.injEq, Prod.mk.injEq] at h
        obtain ⟨rfl, rfl⟩ := h
        refine ⟨_, ⟨s, rfl, hs⟩, cells_one rfl rfl (.c _ rfl), ?_, by rw [avOf]⟩
        rw [hB.str, Array.length_toList]
        simp [blk]
      · cases h
    · simp only [Option.some.injEq, Prod.mk.injEq] at h
      obtain ⟨rfl, rfl⟩ := h
      refine ⟨.ps [], ⟨[], rfl, by simp, by simp⟩, cells_one rfl rfl ?_, by simp [blk, blkAll, hB.nil], by rw [avOf]⟩
      exact .ps [] none 0 0 0 (fun _ _ => Go.undef) (by simp) (by simp) (by simp) (by simp) (by simp)
    · rename_i e a len cap
      simp only [Bool.and_eq_true, decide_eq_true_eq] at hp
      obtain ⟨hsz, hp⟩ := hp
      split at h
      case isFalse => cases h
      rename_i hc
      obtain ⟨_, hlc, hcm⟩ := hc
      rw [Option.bind_eq_some_iff] at h
      obtain ⟨elems, hel, h⟩ := h
      rw [Option.map_eq_some_iff] at h
      obtain ⟨rest, hrest, h⟩ := h
      simp only [Prod.mk.injEq] at h
      obtain ⟨rfl, rfl⟩ := h
      have hlen : elems.length = len := by have := mapM_some_length hel; simpa using this
      have hat : ∀ i, i < len → ∃ us y, elems[i]? = some y ∧ w.cells? 0 (a.add (i * P.cellsOf e)) (P.cellsOf e) = some us ∧ DataW.trod enc P w 0 sp held F e us = some y := by
        intro i hi
        have h1 := mapM_some_get hel i i (by simp [hi])
        have h2 : elems[i]? = some elems[i] := List.getElem?_eq_getElem (by omega)
        rw [h2, Option.bind_eq_some_iff] at h1
        obtain ⟨us, h3, h4⟩ := h1
        exact ⟨us, elems[i], h2, h3, h4⟩
      obtain ⟨es, hesl, hes⟩ := exists_list len (fun i x => ∃ us y, elems[i]? = some y ∧ w.cells? 0 (a.add (i * P.cellsOf e)) (P.cellsOf e) = some us ∧ Rd P n e x ∧ CellsRel Γ w x.cells us ∧ blk x ≤ B y.1 ∧ x = avOf y.1) fun i hi => by
        obtain ⟨us, ⟨y1, y2⟩, h1, h2, h3⟩ := hat i hi
        obtain ⟨x, h4, h5, h6, h7⟩ := rd_of_trod hB hΓ F n e us y1 y2 hp h3
        exact ⟨x, us, _, h1, h2, h4, h5, h6, h7⟩
      have hcell : ∀ (k : Nat) (x : AV), es[k]? = some x → x.cells.length = P.cellsOf e ∧ ∃ us, us.length = P.cellsOf e ∧ CellsRel Γ w x.cells us ∧ ∀ j, j < P.cellsOf e → w.cell? ((a.add (k * P.cellsOf e)).add j) = us[j]? := by
        intro k x hx
        obtain ⟨us, y, _, h2, _, h5, _, _⟩ := hes k x hx
        unfold World.cells? at h2
        split at h2
        · have hl : us.length = P.cellsOf e := by have := mapM_some_length h2; simpa using this
          exact ⟨h5.1.symm.trans hl, us, hl, h5, fun j hj => mapM_some_get h2 j j (by simp [hj])⟩
        · cases h2
      have hspot : es ≠ [] → a.spot = none := by
        intro hne
        have hpos := List.length_pos_iff.2 hne
        have h0 : es[0]? = some es[0] := List.getElem?_eq_getElem hpos
        obtain ⟨h1, us, h2, h3, h4⟩ := hcell 0 _ h0
        have h5 := h4 0 (by omega)
        rw [List.getElem?_eq_getElem (by omega)] at h5
        simp [Addr.add, World.cell?] at h5
        split at h5
        · cases hs : a.spot with
          | none => rfl
          | some s => simp [hs] at h5
        · cases h5
      have hadd : a.spot = none → ∀ m j, (a.add m).add j = ⟨a.block, a.off + m + j, none⟩ := by
        intro hs m j
        obtain ⟨b, o, s⟩ := a
        simp only at hs; subst hs
        unfold Addr.add
        split <;> split <;> simp_all [Nat.add_assoc]
      have hav : es = avOfs (elems.map (·.1)) := by
        apply List.ext_getElem?
        intro i
        rw [avOfs_get, List.getElem?_map]
        by_cases hi : i < len
        · have hx : es[i]? = some es[i] := List.getElem?_eq_getElem (by omega)
          obtain ⟨us, y, h1, _, _, _, _, h7⟩ := hes i _ hx
          rw [hx, h1, h7]; rfl
        · rw [List.getElem?_eq_none (by omega), List.getElem?_eq_none (by omega)]; rfl
      refine ⟨.ps es, ⟨es, rfl, by omega, fun x hx => ?_⟩, cells_one rfl rfl ?_, ?_, by rw [avOf, ← hav]⟩
      · obtain ⟨i, hi⟩ := List.getElem?_of_mem hx
        obtain ⟨_, _, _, _, h, _⟩ := hes i x hi
        exact h
      · have hb : es ≠ [] → a.block < w.heap.size := by
          intro hne
          have hpos := List.length_pos_iff.2 hne
          have h0 : es[0]? = some es[0] := List.getElem?_eq_getElem hpos
          obtain ⟨h1, us, h2, h3, h4⟩ := hcell 0 _ h0
          have h5 := h4 0 (by omega)
          rw [List.getElem?_eq_getElem (by omega), hadd (hspot hne)] at h5
          have := cell_lt h5
          exact this
        rw [← hesl]
        refine .ps es (some a) cap a.block a.off (fun k j => (w.cell? ⟨a.block, a.off + k * P.cellsOf e + j, none⟩).getD Go.undef) (by omega) (fun hne => ⟨?_, hb hne⟩) ?_ ?_ ?_
        · obtain ⟨b, o, s⟩ := a
          have := hspot hne
          simp only at this; subst this; rfl
        all_goals
          intro k x j y hk hj
          have hne : es ≠ [] := by intro e0; subst e0; simp at hk
          obtain ⟨h1, us, h2, h3, h4⟩ := hcell k x hk
          have hjl := (List.getElem?_eq_some_iff.1 hj).1
          have h5 := h4 j (by omega)
          rw [List.getElem?_eq_getElem (by omega), hadd (hspot hne)] at h5
          first
          | exact ⟨by rw [h1, h5]; rfl, Ctx.fixd_of (hΓ _)⟩
          | (simp only [h5, Option.getD_some]; exact h3.2.1 _ (List.getElem_mem _))
          | (simp only [h5, Option.getD_some]; exact h3.2.2 j y _ hj (List.getElem?_eq_getElem _))
      · rw [hB.slice]
        have := blkAll_le hB es (elems.map (·.1)) (by simp; omega) fun i x y hx hy => by
          obtain ⟨_, z, h1, _, _, h6, h2, _⟩ := hes i x hx
          clear h6
          simp only [List.getElem?_map, h1, Option.map_some, Option.some.injEq] at hy
          subst hy; exact h2
        simp only [blk]; omega
    · rename_i fs
      simp only [Bool.and_eq_true, List.all_eq_true] at hp
      split at h
      · rename_i hlen
        rw [Option.map_eq_some_iff] at h
        obtain ⟨xs, hm, h⟩ := h
        simp only [Prod.mk.injEq] at h
        obtain ⟨rfl, rfl⟩ := h
        obtain ⟨as, h1, h2, h3, h4⟩ := parts_of (w := w) (P := P) (Γ := Γ) (r := Rd P n) hB hlen fs.toList 0 xs hp.1 hm fun f hf x hx => rd_of_trod hB hΓ F n f.type _ x.1 x.2 (hp.2 f hf) hx
        refine ⟨.agg as, ⟨as, rfl, h1⟩, by simpa [AV.cells] using h2, ?_, by rw [avOf, ← h4]⟩
        rw [hB.agg]; simp only [blk]; omega
      · cases h
    all_goals (cases h)

/-- All arguments. -/
def RdAll (P : Program) (n : Nat) : List TypeId → List AV → Prop
  | [], as => as = []
  | t :: ts, as => ∃ a as', as = a :: as' ∧ Rd P n t a ∧ RdAll P n ts as'

theorem rd_value {Γ : Ctx} {n : Nat} {t : TypeId} {v : Value} {a : AV} {base : Nat} (hok : Value.okWide P w .any base t v) (hr : Rd P n t a) (h : CellsRel Γ w a.cells v.cells.toList) : VR Γ w a v := by
  cases n with
  | zero => exact hr.elim
  | succ n =>
    have one : ∀ {x : AV}, x.cells = [x] → v.oneCell' = true → CellsRel Γ w x.cells v.cells.toList → VR Γ w x v := by
      intro x hx hv h
      rw [hx] at h
      have : v.cells.toList = [v] := by cases v <;> simp_all [Value.cells, Value.oneCell']
      rw [this] at h
      exact h.2.2 0 _ _ rfl rfl
    unfold Rd at hr
    unfold Value.okWide at hok
    have cell : Cell.okWide P w .any base t v → v.oneCell' = true := by
      intro hc
      unfold Cell.okWide at hc
      split at hc <;> first | rfl | skip
      unfold Cell.ok at hc
      split at hc <;> first | rfl | exact hc.elim
    split at hr <;> rename_i hu
    · obtain ⟨b, rfl⟩ := hr
      exact one rfl (cell (by simpa [hu] using hok)) h
    · obtain ⟨b, rfl, _⟩ := hr
      exact one rfl (cell (by simpa [hu] using hok)) h
    · obtain ⟨b, rfl, _⟩ := hr
      exact one rfl (cell (by simpa [hu] using hok)) h
    · obtain ⟨b, rfl, _⟩ := hr
      exact one rfl (cell (by simpa [hu] using hok)) h
    · obtain ⟨cs, rfl, _⟩ := hr
      simp only [hu] at hok
      obtain ⟨xs, rfl, _⟩ := hok
      have := h.agg
      simpa [Value.cells, AV.cells] using this
    · exact hr.elim

theorem rdAll_of (hB : BulkOk B BL) {Γ : Ctx} (hΓ : ∀ b, ¬ Γ.owns b) {n base : Nat} : ∀ (ts : List TypeId) (vs : List Value) (ds : List (DataW H)) (ps : List MemPlace), ts.all (plainB P n) = true →
    DataW.TrodAll enc P w 0 sp held ts vs ds ps → (∀ (j : Nat) t v, ts[j]? = some t → vs[j]? = some v → Value.okWide P w .any base t v) → ∃ as, RdAll P n ts as ∧ VRs Γ w as vs ∧ blkAll as ≤ BL ds
  | [], [], [], ps, _, _, _ => ⟨[], rfl, ⟨rfl, by intro j a v h; simp at h⟩, by simp [blkAll]⟩
  | t :: ts, v :: vs, d :: ds, ps, hp, h, hok => by
    simp only [List.all_cons, Bool.and_eq_true] at hp
    obtain ⟨p, q, ⟨F, h1⟩, h2, _⟩ := h
    obtain ⟨a, ha, hc, hb, _⟩ := rd_of_trod hB hΓ F n t _ d p hp.1 h1
    obtain ⟨as, has, hvs, hbs⟩ := rdAll_of hB hΓ ts vs ds q hp.2 h2 fun j t v ht hv => hok (j + 1) t v (by simpa using ht) (by simpa using hv)
    refine ⟨a :: as, ⟨a, as, rfl, ha, has⟩, ⟨by simp [hvs.1], fun j x u hx hu => ?_⟩, by rw [hB.cons]; simp only [blkAll]; omega⟩
    cases j with
    | zero =>
      obtain rfl := Option.some.inj hx
      obtain rfl := Option.some.inj hu
      exact rd_value (hok 0 t v rfl rfl) ha hc
    | succ j => exact hvs.2 j x u (by simpa using hx) (by simpa using hu)
  | [], _ :: _, _, _, _, h, _ => by simp [DataW.TrodAll] at h
  | [], [], _ :: _, _, _, h, _ => by simp [DataW.TrodAll] at h
  | _ :: _, [], _, _, _, h, _ => by simp [DataW.TrodAll] at h
  | _ :: _, _ :: _, [], _, _, h, _ => by simp [DataW.TrodAll] at h
end

/-- A list of abstract values that are each made from something. -/
theorem list_of {α : Type} {f : α → AV} {p : α → Prop} : ∀ {es : List AV}, (∀ x ∈ es, ∃ y, x = f y ∧ p y) → ∃ l : List α, es = l.map f ∧ ∀ y ∈ l, p y
  | [], _ => ⟨[], rfl, by simp⟩
  | x :: es, h => by
    obtain ⟨y, rfl, hy⟩ := h x (by simp)
    obtain ⟨l, rfl, hl⟩ := list_of (f := f) (p := p) (es := es) fun x hx => h x (by simp [hx])
    exact ⟨y :: l, rfl, by simpa using ⟨hy, hl⟩⟩

theorem u8_byteV {z : Int} (h0 : IntKind.u8.min ≤ z) (h1 : z ≤ IntKind.u8.max) : (AV.c (.int .u8 z)) = byteV (UInt8.ofNat z.toNat) := by
  simp [IntKind.min, IntKind.max, IntKind.signed, IntKind.bits] at h0 h1
  unfold byteV
  congr 2
  have : (UInt8.ofNat z.toNat).toNat = z.toNat := by simp; omega
  rw [this]; omega

theorem bytes_of {es : List AV} (h : ∀ x ∈ es, ∃ z, x = .c (.int .u8 z) ∧ IntKind.u8.min ≤ z ∧ z ≤ IntKind.u8.max) : ∃ l : List UInt8, es = l.map byteV := by
  obtain ⟨l, hl, _⟩ := list_of (f := byteV) (p := fun _ => True) (es := es) fun x hx => by
    obtain ⟨z, rfl, h0, h1⟩ := h x hx
    exact ⟨_, u8_byteV h0 h1, trivial⟩
  exact ⟨l, hl⟩

/-! ### The end: the answer is true, what was there before is as it was -/
def Γ0 (B : Nat) : Ctx := ⟨fun _ => none, 0, B⟩
def σ0 : Store := ⟨fun _ => none, 0⟩
theorem Γ0_owns (B b : Nat) : ¬ (Γ0 B).owns b := by rintro ⟨i, l, h, _⟩; simp [Γ0] at h

theorem R.empty {E : Env} {w : World} (hg : ∀ g cs, E.G g = some cs → GR (Γ0 w.heap.size) w cs g ∧ ∀ m, Bel m (.pp cs)) : R E (Γ0 w.heap.size) σ0 w :=
  ⟨rfl, fun i => rfl, fun i _ => rfl, fun i j li lj b h => by simp [Γ0] at h, fun i o l h => by simp [σ0] at h, fun g cs h => (hg g cs h).1, fun g cs m h => (hg g cs h).2 m, Nat.le_refl _, fun i o l h => by simp [σ0] at h⟩

theorem ExtN.below {n : Nat} {Γ' : Ctx} {w w' : World} (h : ExtN n (Γ0 w.heap.size) w Γ' w') : Go.RowKit.Below w.heap.size w w' :=
  ⟨h.os, h.tape, h.output, h.size, fun k hk => by
    rcases (h.sealed k hk (Γ0_owns _ k)).1 with e | ⟨e, _⟩
    · exact e
    · exact absurd e (by show ¬ w.heap.size ≤ k; omega)⟩

section
open Go.RowKit Go.ChangeShapes
variable {H : Type} {enc : TypeId × Value → H} {P : Program}

theorem trodAll_below (hl : laidOutB P = true) {W W' : World} (hb : Below W.heap.size W W') : ∀ (ts : List TypeId) (vs : List Value) (ds : List (DataW H)) (ps : List MemPlace), ts.all (fun t => P.readableRec t && decide (t < P.types.size)) = true →
    DataW.TrodAll enc P W 0 (fun _ => true) true ts vs ds ps → (∀ x ∈ ps, x.block < W.heap.size) → DataW.TrodAll enc P W' 0 (fun b => decide (b < W.heap.size)) true ts vs ds ps
  | [], [], [], ps, _, h, _ => h
  | t :: ts, v :: vs, d :: ds, ps, hp, h, hlt => by
    simp only [List.all_cons, Bool.and_eq_true, decide_eq_true_eq] at hp
    obtain ⟨p, q, h1, h2, rfl⟩ := h
    exact ⟨p, q, Below.trod hl hp.1.1 hp.1.2 h1 hb fun x hx => hlt x (by simp [hx]), trodAll_below hl hb ts vs ds q (by simpa using hp.2) h2 fun x hx => hlt x (by simp [hx]), rfl⟩
  | [], _ :: _, _, _, _, h, _ => by simp [DataW.TrodAll] at h
  | [], [], _ :: _, _, _, h, _ => by simp [DataW.TrodAll] at h
  | _ :: _, [], _, _, _, h, _ => by simp [DataW.TrodAll] at h
  | _ :: _, _ :: _, [], _, _, h, _ => by simp [DataW.TrodAll] at h

theorem trodAll_length {w : World} {b : Nat} {sp : Nat → Bool} {hd : Bool} : ∀ (ts : List TypeId) (vs : List Value) (ds : List (DataW H)) (ps : List MemPlace), DataW.TrodAll enc P w b sp hd ts vs ds ps → ds.length = ts.length
  | [], [], [], ps, h => rfl
  | t :: ts, v :: vs, d :: ds, ps, h => by
    obtain ⟨p, q, h1, h2, _⟩ := h
    simp [trodAll_length ts vs ds q h2]
  | [], _ :: _, _, _, h => by simp [DataW.TrodAll] at h
  | [], [], _ :: _, _, h => by simp [DataW.TrodAll] at h
  | _ :: _, [], _, _, h => by simp [DataW.TrodAll] at h
  | _ :: _, _ :: _, [], _, h => by simp [DataW.TrodAll] at h

/-- THE ROW's CLOSE: a law whose contract says 'true' at every reading of its arguments. -/
theorem row_of {B : DataW H → Nat} {BL : List (DataW H) → Nat} (hB : BulkOk B BL) {E : Env} {f : FuncId} {fn : Func} {s : ChangeSpec} {n tb : Nat} (hl : laidOutB E.P = true)
    (hp : fn.params.toList.all (plainB E.P n) = true) (hrd : fn.params.toList.all (fun t => E.P.readableRec t && decide (t < E.P.types.size)) = true)
    (hrt : fn.resultTypes = #[tb]) (htb : E.P.underlying tb = some .bool) (hvars : s.vars = []) {W : World} {base : Nat} {args : Array Value} {ds gs : List (DataW H)} {before : List MemPlace}
    (hs : ∀ ds : List (DataW H), ds.length = fn.params.toList.length → (s.fn H ds).results = [.lit (.bool true)] ∧ (s.fn H ds).args = ds ∧ (s.fn H ds).vars = [])
    (hg : ∀ g cs, E.G g = some cs → GR (Γ0 W.heap.size) W cs g ∧ ∀ m, Bel m (.pp cs)) (hpan : ∀ a σ, ¬ E.pan a σ)
    (hval : ∀ (j : Nat) t v, fn.params[j]? = some t → args[j]? = some v → Value.okWide E.P W .any base t v)
    (hW : DataW.Whole enc E.P fn.params.toList s.vars false W args.toList ds gs before)
    (main : ∀ as, RdAll E.P n fn.params.toList as → blkAll as ≤ BL ds → ACalls E f as σ0 fun r _ => r = .c (.bool true)) :
    Calls E.P f args W fun e W' => ∃ v, e = .returned v ∧ s.post enc E.P fn false true false false W args v W' := by
  have hW' := hW
  obtain ⟨p, q, hA, hV, rfl, hfz, hnd⟩ := hW
  obtain ⟨as, ha, hv, hb⟩ := rdAll_of (enc := enc) (P := E.P) (w := W) hB (Γ0_owns W.heap.size) (base := base) fn.params.toList args.toList ds p hp hA fun j t v ht hv => hval j t v (by simpa using ht) (by simpa using hv)
  refine (main as ha hb (Γ0 W.heap.size) W args (R.empty hg) hv).mono fun e W' => ?_
  rintro (⟨v, rfl, Γ', a, σ', hx, hr, hvr, rfl⟩ | ⟨v, rfl, Γ', a, σ', _, _, _, hp⟩)
  rotate_left
  · exact absurd hp (hpan _ _)
  have hbool : v = .bool true := by cases hvr; rfl
  subst hbool
  have hbl := hx.below
  rw [hvars] at hV
  cases gs with
  | cons g gs => simp [DataW.TrodVars] at hV
  | nil =>
    have hq : q = [] := by simpa [DataW.TrodVars] using hV
    subst hq
    have hlt : ∀ x ∈ p, x.block < W.heap.size := fun x hx => hW'.lt x (by simp [hx])
    have hs := hs ds (trodAll_length _ _ _ _ hA)
    have e0 : ds ++ [] = ds := List.append_nil ds
    rw [← e0] at hs
    refine ⟨_, rfl, ds, [], _, [], p, [], hW', ?_, ?_, ?_, hbl.frame _, fun h => by cases h⟩
    · rw [hs.1, hrt]
      exact trodAll_cons_mk (shut_bool htb true) trodAll_mk0
    · rw [hs.2.1, e0]
      exact trodAll_below hl hbl _ _ _ _ hrd hA hlt
    · rw [hs.2.2, hvars]; rfl
end
end Go.AW
namespace Go.AW
open Go
/-- A laid variable, as the row's list has it. -/
theorem glob_of_laid {P : Program} {W : World} {B : DataW Unit → Nat} {BL : List (DataW Unit) → Nat} (hB : BulkOk B BL) {Γ : Ctx} (hΓ : ∀ b, ¬ Γ.owns b) {n : Nat} {t : TypeId} {g : Nat} {name : String} {d : DataW Unit} (hg : P.globalNamed name = some g)
    (hty : (P.globals[g]?).map (·.type) = some t) (hp : plainB P n t = true) : ∀ (laid : List (String × DataW Unit)) (ps : List MemPlace), DataW.LaidVars P W laid ps → (name, d) ∈ laid → GR Γ W (avOf d).cells g
  | [], _, _, hm => by cases hm
  | (name', d') :: rest, ps, h, hm => by
    obtain ⟨g', t', cs, fuel, p, q, hg', ht', hvar, hd, hrest, _⟩ := h
    rcases List.mem_cons.1 hm with e | hm
    · obtain ⟨rfl, rfl⟩ := Prod.mk.inj e
      obtain rfl := Option.some.inj (hg.symm.trans hg')
      obtain rfl := Option.some.inj (hty.symm.trans ht')
      obtain ⟨a, _, hc, _, rfl⟩ := rd_of_trod hB hΓ fuel n t _ d p hp hd
      have hcell : ∀ (j : Nat) (u : Value), cs[j]? = some u → W.cell? ⟨g, j, none⟩ = some u := fun j u hu => World.var?_cell hg hvar j ▸ hu
      have hlt : g < W.heap.size := by
        unfold World.var? at hvar
        rw [hg] at hvar
        simp only [Option.bind_some] at hvar
        cases hh : W.heap[g]? with
        | none => rw [hh] at hvar; cases hvar
        | some o => exact (Array.getElem?_eq_some_iff.1 hh).1
      have hat : ∀ (j : Nat) (x : AV), (avOf d).cells[j]? = some x → ∃ u, cs[j]? = some u ∧ u.oneCell' = true ∧ VR Γ W x u := fun j x hx => by
        have hj := (List.getElem?_eq_some_iff.1 hx).1
        have hj' : j < cs.toList.length := by rw [hc.1]; exact hj
        have hu := List.getElem?_eq_getElem hj'
        exact ⟨_, by rw [← Array.getElem?_toList]; exact hu, hc.2.1 _ (List.getElem_mem _), hc.2.2 j x _ hx hu⟩
      have hblk : ∃ (xs : Array Value) (t : TypeId) (fr : Nat × Nat), W.heap[g]? = some (.cells xs t fr) ∧ xs.size = (avOf d).cells.length := by
        unfold World.var? at hvar
        rw [hg] at hvar
        simp only [Option.bind_some] at hvar
        split at hvar
        · rename_i xs tt fr hh
          cases hvar
          exact ⟨_, _, _, hh, by rw [← hc.1]; simp⟩
        · cases hvar
      refine ⟨.pp _ g 0 (fun j => (cs[j]?).getD Go.undef) hlt ?_ ?_ ?_, hΓ g, hblk⟩
      · intro j x hx
        obtain ⟨u, h1, _, _⟩ := hat j x hx
        exact ⟨by rw [Nat.zero_add, hcell j u h1, h1]; rfl, Ctx.fixd_of (hΓ g)⟩
      · intro j x hx
        obtain ⟨u, h1, h2, _⟩ := hat j x hx
        rw [h1]; exact h2
      · intro j x hx
        obtain ⟨u, h1, _, h3⟩ := hat j x hx
        rw [h1]; exact h3
    · exact glob_of_laid hB hΓ hg hty hp rest q hrest hm
end Go.AW
