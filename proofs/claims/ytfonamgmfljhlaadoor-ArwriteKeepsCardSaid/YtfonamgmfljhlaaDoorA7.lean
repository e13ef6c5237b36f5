/- Parts of an archive. No condition. -/
import Derived.Test.YtfonamgmfljhlaaDoorA6
set_option linter.unusedVariables false
set_option linter.unusedSimpArgs false
set_option linter.unnecessarySimpa false
namespace Go.Proofs.YtfonamgmfljhlaaDoor
open Go Go.AW
set_option maxRecDepth 100000
set_option maxHeartbeats 8000000

def H.sized (h : H) (d : W) : H := ⟨h.name, h.t, h.u, h.g, h.m, d.length⟩
theorem H.sized_lim {h : H} (hl : h.lim) {d : W} (hd : d.length ≤ 2000000) : (h.sized d).lim := ⟨hl.1, hl.2.1, hl.2.2.1, hl.2.2.2.1, by show (d.length : Int) < _; omega, hl.2.2.2.2.2⟩
def padL (d : W) : W := if d.length % 2 = 1 then [10] else []
/-- A header and its data. -/
def partL (h : H) (d : W) : W := encL (h.sized d) ++ (d ++ padL d)
theorem encL_len (h : H) : (encL h).length ≤ 60 := by
  unfold encL
  split
  · rename_i h0
    have hf : fitsN h.name = true := by
      cases hf : fitsN h.name with
      | true => rfl
      | false => simp [encE, hf] at h0
    have hlen := fits_len hf
    have h1 := h.upto_len hlen.2 5
    have : h.all = h.upto 5 ++ [96, 10] := by simp [H.all, H.upto, H.parts]
    rw [this]
    simp; omega
  · simp
theorem tmod2 (n : Nat) : (n : Int).tmod 2 = ((n % 2 : Nat) : Int) := rfl
theorem Add_c (a b : W) (ha : a.length ≤ 1000000000) (hb : b.length ≤ 1000000000) (σ : Store) : ACalls E 19 [bytes a, bytes b] σ fun r s =>
    (a ++ b = [] ∧ r = .nl ∧ s = σ) ∨ (a ++ b ≠ [] ∧ r = .lg σ.next ((a ++ b).map byteV) ∧ s = σ.alloc (.log 5 (a ++ b).length)) := by
  refine ACalls.enterA [] Tryd.func19 rfl Tryd.ntmps19 Tryd.results19 hmE (by kernel_rfl) (by simp) fun hσ => ?_
  conv => arg 5; cbv
  simp
  refine ⟨by omega, by omega, ?_⟩
  split
  · rename_i h
    subst h
    refine ⟨by omega, by omega, ?_⟩
    split
    · rename_i h
      subst h
      exact Fin.same (by simp) (.inl ⟨⟨rfl, rfl⟩, rfl, rfl⟩)
    · rename_i h
      exact Fin.same (by simp) (.inr ⟨by simpa using h, by simp, by simp⟩)
  · rename_i h
    refine ⟨by omega, by omega, Fin.same (by simp) (.inr ⟨by simp [h], by simp, by simp⟩)⟩
theorem rpart_p (h : H) (d : W) (hl : h.lim) (hd : d.length ≤ 2000000) : Pur E 20 [hdrV h, bytes d] (bytes (partL h d)) := by
  have hE : Pur E 28 [.agg [str h.name, intV h.t, intV h.u, intV h.g, intV h.m, intV d.length]] (encV (h.sized d)) := rEncode_p (h.sized d) (h.sized_lim hl hd)
  have hel := encL_len (h.sized d)
  simp at hE
  refine Pur.enter [] Tryd.func20 rfl Tryd.ntmps20 Tryd.results20 hmE (by kernel_rfl) (by simp) (fun _ => bel_bytes _ _) fun σ hσ => ?_
  conv => arg 5; cbv
  simp
  refine Pur.call hE ?_
  simp
  refine (Add_c _ d (by omega) (by omega) _).mono ?_
  have hm := Nat.mod_two_eq_zero_or_one d.length
  rintro r s (⟨h1, rfl, rfl⟩ | ⟨h1, rfl, rfl⟩)
  · have h2 : d = [] := (List.append_eq_nil_iff.1 h1).2
    have h3 : encL (h.sized d) = [] := (List.append_eq_nil_iff.1 h1).1
    subst h2
    simp [partL, padL, h3]
  · rcases hm with hm | hm
    · simp [tmod2, hm, partL, padL]
    · simp [tmod2, hm, partL, padL]
      omega
/-- A writer and its bytes. -/
def wrV (i : Nat) (out : W) : AObj := .arr 45 0 [.agg [.lg i (out.map byteV), intV 0]]
def isWr (s : Store) (n i : Nat) (out : W) : Prop := s.get n = some (wrV i out) ∧ s.get i = some (.log 5 out.length)
/-- The writer with these bytes. -/
def wr (s : Store) (n i : Nat) (out : W) : Store := (s.set i (.log 5 out.length)).set n (wrV i out)
theorem isWr.ne {s : Store} {n i : Nat} {out : W} (h : isWr s n i out) : n ≠ i := by
  rintro rfl
  have := h.1.symm.trans h.2
  simp [wrV] at this
@[simp] theorem wr_next (s : Store) (n i : Nat) (out : W) : (wr s n i out).next = s.next := rfl
theorem wr_get (s : Store) (n i : Nat) (out : W) (j : Nat) : (wr s n i out).get j = if j = n then some (wrV i out) else if j = i then some (.log 5 out.length) else s.get j := by simp [wr]
theorem wr_is {s : Store} {n i : Nat} {o : W} (h : isWr s n i o) (out : W) : isWr (wr s n i out) n i out := ⟨by simp [wr_get], by simp [wr_get, h.ne.symm]⟩
theorem wr_wr (s : Store) (n i : Nat) (o out : W) : wr (wr s n i o) n i out = wr s n i out := by
  unfold wr Store.set
  simp only [Store.mk.injEq, and_true]
  funext j
  by_cases h : j = n <;> by_cases h' : j = i <;> simp [h, h']
theorem wr_same {s : Store} {n i : Nat} {out : W} (h : isWr s n i out) : wr s n i out = s := by
  have : (wr s n i out).get = s.get := by
    funext j
    rw [wr_get]
    split
    · subst_vars; exact h.1.symm
    · split
      · subst_vars; exact h.2.symm
      · rfl
  show (⟨(wr s n i out).get, s.next⟩ : Store) = s
  rw [this]
theorem wr_bel {s : Store} {n i : Nat} {o : W} (hs : StoreBel s) (h : isWr s n i o) (out : W) : StoreBel (wr s n i out) := by
  have hi := (hs _ _ h.2).1
  have hn := (hs _ _ h.1).1
  refine StoreBel.set_obj (hs.set_obj (o := .log 5 out.length) hi trivial) hn ?_
  show ∀ e ∈ [AV.agg [.lg i (out.map byteV), intV 0]], ∀ x ∈ e.cells, Bel s.next x
  have := bel_lg hi out
  simp [this]
/-- The store as it was, but for what is known to be new. -/
theorem Fin.cut {σ0 σ σ2 : Store} {a : AV} {Q : AV → Store → Prop} (h2 : σ2.next = σ0.next) (hb : Below σ2 σ) (hB : StoreBel σ2) (ha : Bel σ2.next a) (h : Q a σ2) : AW.Fin σ0.next σ a Q :=
  ⟨a, σ2, ⟨by omega, hb.1, fun i o ho => by rw [hb.2 i (hB i o ho).1]; exact ho, .inr hB⟩, .refl _, .inr ha, h⟩
theorem part_c (h : H) (d : W) (hl : h.lim) (hd : d.length ≤ 2000000) (h0 : encE (h.sized d) = 0) (n i : Nat) (out : W) (ho : out.length ≤ 100000000000) (σ : Store) (hw : isWr σ n i out) :
    ACalls E 16 [.rp n 0 0 0, hdrV h, bytes d] σ fun a s => a = .tup [] ∧ s = wr σ n i (out ++ partL h d) := by
  have hw0 := hw
  obtain ⟨hn, hi⟩ := hw
  have hE : Pur E 26 [.agg [str h.name, intV h.t, intV h.u, intV h.g, intV h.m, intV d.length]] (encV (h.sized d)) := Encode_p (h.sized d) (h.sized_lim hl hd)
  have hel := encL_len (h.sized d)
  have hni := hw0.ne
  simp [h0] at hE
  refine ACalls.enterA [] Tryd.func16 rfl Tryd.ntmps16 Tryd.results16 hmE (by kernel_rfl) (by simp) fun hσ => ?_
  conv => arg 5; cbv
  have hn1 := (hσ _ _ hn).1
  have hi1 := (hσ _ _ hi).1
  simp only [wrV] at hn
  simp [hn, hi, hni, Ne.symm hni, show ¬ n = σ.next by omega, show ¬ i = σ.next by omega]
  refine Pur.call hE ?_
  have hm := Nat.mod_two_eq_zero_or_one d.length
  rcases hm with hm | hm
  · have hp : partL h d = encL (h.sized d) ++ d := by simp [partL, padL, hm]
    simp [hn, hi, hni, Ne.symm hni, show ¬ n = σ.next by omega, show ¬ i = σ.next by omega, tmod2, hm]
    refine ⟨by omega, by omega, by omega, by omega, Fin.cut (σ2 := wr σ n i (out ++ partL h d)) rfl ⟨by simp, fun j hj => ?_⟩ (wr_bel hσ hw0 _) (by simp) ⟨rfl, rfl⟩⟩
    simp at hj
    rw [wr_get]
    by_cases h1 : j = n
    · simp [h1, hp, wrV]
    · by_cases h2 : j = i
      · simp [h2, hni.symm, hp]; omega
      · simp [h1, h2, show ¬ j = σ.next by omega]
  · have hp : partL h d = encL (h.sized d) ++ (d ++ [10]) := by simp [partL, padL, hm]
    simp [hn, hi, hni, Ne.symm hni, show ¬ n = σ.next by omega, show ¬ i = σ.next by omega, tmod2, hm]
    refine ⟨by omega, by omega, by omega, by omega, by omega, by omega, by omega, Fin.cut (σ2 := wr σ n i (out ++ partL h d)) rfl ⟨by simp, fun j hj => ?_⟩ (wr_bel hσ hw0 _) (by simp) ⟨rfl, rfl⟩⟩
    simp at hj
    rw [wr_get]
    by_cases h1 : j = n
    · simp [h1, hp, wrV]
    · by_cases h2 : j = i
      · simp [h2, hni.symm, hp]; omega
      · simp [h1, h2, show ¬ j = σ.next by omega]
/-- The number of digits is small. -/
theorem nd_lt_pow (b : Nat) (hb : 2 ≤ b) : ∀ k n : Nat, n < b ^ (k + 1) → nd b n ≤ k + 1 := by
  intro k
  induction k with
  | zero => intro n hn; rw [nd_lt (by simpa using hn)]; omega
  | succ k ih =>
    intro n hn
    by_cases h : n < b
    · rw [nd_lt h]; omega
    · rw [nd_ge hb (by omega)]
      have h2 : n / b < b ^ (k + 1) := by rw [Nat.div_lt_iff_lt_mul (by omega)]; rwa [Nat.pow_succ] at hn
      have := ih (n / b) h2
      omega
theorem size_ok (n : Nat) (hn : n ≤ 2000000) : fldOk n 10 10 false = true := by
  have h1 := nd_lt_pow 10 (by omega) 9 n (by omega)
  simp [fldOk]
  rw [fmtE, if_neg (by omega), if_neg (by simp; omega)]
def hMap : H := ⟨[47], 0, 0, 0, 0, 0⟩
def hTab : H := ⟨[47, 47], 0, 0, 0, 0, 0⟩
theorem zero_ok : fmtE 0 10 12 = 0 ∧ fmtE 0 10 6 = 0 ∧ fmtE 0 8 8 = 0 := ⟨fmt_zero 10 12 (by omega) (by omega), fmt_zero 10 6 (by omega) (by omega), fmt_zero 8 8 (by omega) (by omega)⟩
theorem map_ok (m : W) (hm : m.length ≤ 2000000) : encE (hMap.sized m) = 0 := by
  have h1 : (hMap.sized m).ok = true := by
    obtain ⟨z1, z2, z3⟩ := zero_ok
    have := size_ok m.length hm
    simp [H.ok, H.sized, hMap, H.tab, this]
    simp [fldOk, z1, z2, z3]
  have h2 : fitsN (hMap.sized m).name = true := show fitsN [47] = true by decide
  simp [encE, h1, h2]
theorem tab_ok (m : W) (hm : m.length ≤ 2000000) : encE (hTab.sized m) = 0 := by
  have h1 : (hTab.sized m).ok = true := by
    have := size_ok m.length hm
    simp [H.ok, H.sized, hTab, H.tab, this]
    simp [fldOk]
  have h2 : fitsN (hTab.sized m).name = true := show fitsN [47, 47] = true by decide
  simp [encE, h1, h2]
theorem dg_any (b : W) (hb : ∀ c ∈ b, isd 10 c = true) : hasAny b [10, 0] = false ∧ ∀ c ∈ b, c ≠ 32 ∧ c ≠ 47 := by
  have key : ∀ c ∈ b, 48 ≤ c.toNat := fun c hc => by have := hb c hc; simp [isd] at this; omega
  refine ⟨?_, fun c hc => ?_⟩
  · simp [hasAny]
    intro c hc
    have := key c hc
    exact ⟨fun e => by subst e; simp at this, fun e => by subst e; simp at this⟩
  · have := key c hc
    exact ⟨fun e => by subst e; simp at this, fun e => by subst e; simp at this⟩
/-- A short name's field. -/
theorem field_short {n : W} (h : shortN n = true) : fitsN (n ++ [47]) = true ∧ n ++ [47] ≠ [47, 47] := by
  simp [shortN] at h
  obtain ⟨hv, hl, _⟩ := h
  simp [validN] at hv
  obtain ⟨hl1, hno⟩ := hv
  simp [hasAny] at hno
  refine ⟨?_, ?_⟩
  · simp [fitsN, hasAny]
    exact ⟨by omega, fun c hc => (hno c hc).2⟩
  · intro e
    have : n = [47] := by
      have := congrArg List.dropLast e
      simpa using this
    subst this
    simp at hno
theorem field_long (t : Nat) (ht : t ≤ 2000000) : fitsN (47 :: tx 10 t) = true ∧ 47 :: tx 10 t ≠ [47, 47] := by
  have hd := tx_isd 10 t (by omega)
  obtain ⟨h1, h2⟩ := dg_any _ hd
  have hp := nd_pos 10 t
  have hl : (tx 10 t).length = nd 10 t := tx_len 10 t
  have hn := nd_lt_pow 10 (by omega) 9 t (by omega)
  refine ⟨?_, ?_⟩
  · simp [fitsN]
    refine ⟨⟨by omega, ?_⟩, ?_⟩
    · simp [hasAny] at h1 ⊢
      exact h1
    · intro e
      have hne : tx 10 t ≠ [] := by intro e; rw [e] at hl; simp at hl; omega
      have e2 : (tx 10 t).getLast? = some 32 := by
        obtain ⟨x, xs, hx⟩ := List.exists_cons_of_ne_nil hne
        rw [hx] at e ⊢
        simpa using e
      exact (h2 32 (List.mem_of_getLast? e2)).1 rfl
  · intro e
    have : tx 10 t = [47] := by simpa using e
    exact (h2 47 (by rw [this]; simp)).2 rfl
theorem bld_fits : ∀ (l : List W), l.all validN = true → (∀ n ∈ l, n.length ≤ 1000) → l.length ≤ 1000 → ∀ f ∈ (bld l).2, fitsN f = true ∧ f ≠ [47, 47] := by
  intro l
  induction l using rev_ind with
  | h0 => simp [bld]
  | h1 l c ih =>
    intro hv hl hn
    simp at hn
    have ih := ih (by simp at hv ⊢; exact hv.1) (fun n hn => hl n (by simp [hn])) (by omega)
    have hb := bld_len l fun n hn => hl n (by simp [hn])
    rw [bld_snoc, bldS]
    split
    · rename_i hs
      intro f hf
      simp at hf
      rcases hf with hf | rfl
      · exact ih f hf
      · exact field_short hs
    · intro f hf
      simp at hf
      rcases hf with hf | rfl
      · exact ih f hf
      · exact field_long _ (by omega)
theorem bad_valid {m : M} (h : badE m = 0) : validN m.name = true ∧ fitM m = true := by
  unfold badE at h
  cases hv : validN m.name with
  | false => simp [hv] at h
  | true =>
    cases hf : fitM m with
    | false => simp [hv, hf] at h
    | true => exact ⟨rfl, rfl⟩
/-- The members with their fields. -/
def zipL (l : List M) : List (M × W) := l.zip (nmsF l)
theorem all_valid {l : List M} (h : (fitsI l).2 = 0) : (l.map M.name).all validN = true := by
  simp
  intro m hm
  exact (bad_valid (fits_ok h m hm)).1
theorem nmsF_len {l : List M} (hl : fewM l) (h : (fitsI l).2 = 0) : (nmsF l).length = l.length := by
  have := all_valid h
  rw [nmsF, bldF, if_pos this]
  rw [(bld_len _ (fewN_of hl).2).2]
  simp
theorem zip_ok {l : List M} (hl : fewM l) (h : (fitsI l).2 = 0) : ∀ p ∈ zipL l, encE ((hdrM p.1 p.2).sized p.1.data) = 0 ∧ p.2.length ≤ 16 ∧ p.1 ∈ l := by
  intro p hp
  have h1 : p.1 ∈ l := (List.of_mem_zip hp).1
  have h2 : p.2 ∈ nmsF l := (List.of_mem_zip hp).2
  have hv := all_valid h
  rw [nmsF, bldF, if_pos hv] at h2
  obtain ⟨q1, q2⟩ := bld_fits _ hv (fewN_of hl).2 (fewN_of hl).1 _ h2
  have hf := (bad_valid (fits_ok h _ h1)).2
  refine ⟨?_, (fits_len q1).2, h1⟩
  have : (hdrM p.1 p.2).sized p.1.data = hdrM p.1 p.2 := rfl
  rw [this, enc_fit _ _ q1 q2, hf]
  rfl
end Go.Proofs.YtfonamgmfljhlaaDoor
