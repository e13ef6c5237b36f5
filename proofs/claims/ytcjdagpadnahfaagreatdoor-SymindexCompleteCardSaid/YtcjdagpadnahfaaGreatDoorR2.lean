/- Tables of names, name fields, archives read back, in plain words. No condition, no program. -/
import Derived.Test.YtcjdagpadnahfaaGreatDoorR1
set_option linter.unusedVariables false
set_option linter.unusedSimpArgs false
set_option linter.unnecessarySimpa false
namespace Go.Proofs.YtcjdagpadnahfaaGreatDoor
open Go Go.AW
set_option maxRecDepth 100000
set_option maxHeartbeats 8000000

/-- Where the end of a line begins. -/
def eol : W → Option Nat
  | [] => none
  | c :: t => if c = 47 ∧ t.head? = some 10 then some 0 else (eol t).map (· + 1)
theorem eol_some : ∀ {t : W} {n : Nat}, eol t = some n → n + 2 ≤ t.length ∧ t[n]? = some 47 ∧ t[n + 1]? = some 10 ∧ ∀ j : Nat, j < n → ¬ (t[j]? = some 47 ∧ t[j + 1]? = some 10)
  | [], n, h => by simp [eol] at h
  | c :: t, n, h => by
    rw [eol] at h
    split at h
    · rename_i hc
      cases h
      obtain ⟨rfl, hc⟩ := hc
      cases t with
      | nil => simp at hc
      | cons d t => simp at hc; subst hc; simp
    · rename_i hc
      obtain ⟨m, hm, rfl⟩ := Option.map_eq_some_iff.1 h
      obtain ⟨h1, h2, h3, h4⟩ := eol_some hm
      refine ⟨by simp; omega, by simpa using h2, by simpa using h3, fun j hj => ?_⟩
      cases j with
      | zero =>
        rintro ⟨g1, g2⟩
        simp at g1 g2
        exact hc ⟨g1, by rw [List.head?_eq_getElem?]; exact g2⟩
      | succ j => simpa using h4 j (by omega)
theorem eol_line : ∀ (n : W) (t : W), (∀ c ∈ n, c ≠ 47) → eol (n ++ 47 :: 10 :: t) = some n.length
  | [], t, _ => by simp [eol]
  | c :: n, t, h => by
    have hc := h c (by simp)
    have ih := eol_line n t fun c hc => h c (by simp [hc])
    simp [eol, hc, ih]
/-- The lines of a table, with their places. -/
def linG : Nat → W → Nat → List (Nat × W)
  | 0, _, _ => []
  | k + 1, t, a => if t = [] then [] else match eol t with
    | none => [(a, t ++ [47])]
    | some n => (a, t.take n) :: linG k (t.drop (n + 2)) (a + n + 2)
theorem linG_fuel : ∀ (k k' : Nat) (t : W) (a : Nat), t.length ≤ k → t.length ≤ k' → linG k t a = linG k' t a
  | 0, k', t, a, h, _ => by
    have : t = [] := List.length_eq_zero_iff.1 (by omega)
    subst this
    cases k' <;> simp [linG]
  | k + 1, 0, t, a, _, h => by
    have : t = [] := List.length_eq_zero_iff.1 (by omega)
    subst this
    simp [linG]
  | k + 1, k' + 1, t, a, h, h' => by
    rw [linG, linG]
    split
    · rfl
    · cases he : eol t with
      | none => rfl
      | some n =>
        simp only
        rw [linG_fuel k k' _ _ (by simp; omega) (by simp; omega)]
def lins (t : W) : List (Nat × W) := linG t.length t 0
def entE (t : W) : Int := if (lins t).all (fun p => validN p.2) then 0 else 7
def tentL (t : W) : List W := if entE t = 0 then (lins t).map Prod.snd else []
/-- The lines of a table that was made of names. -/
def linP : List W → Nat → List (Nat × W)
  | [], _ => []
  | n :: l, a => (a, n) :: linP l (a + n.length + 2)
theorem lin_tab : ∀ (l : List W) (k a : Nat), (∀ n ∈ l, ∀ c ∈ n, c ≠ 47) → (tabL l).length ≤ k → linG k (tabL l) a = linP l a
  | [], k, a, _, _ => by cases k <;> simp [tabL, linG, linP]
  | n :: l, 0, a, _, h => by simp [tabL] at h
  | n :: l, k + 1, a, hn, h => by
    have e1 : tabL (n :: l) = n ++ 47 :: 10 :: tabL l := by simp [tabL]
    have hl : (tabL (n :: l)).length = n.length + 2 + (tabL l).length := by rw [e1]; simp; omega
    have h2 : (n ++ 47 :: 10 :: tabL l).take n.length = n := by simp
    have h3 : (n ++ 47 :: 10 :: tabL l).drop (n.length + 2) = tabL l := by
      rw [show n ++ 47 :: 10 :: tabL l = (n ++ [47, 10]) ++ tabL l by simp]
      exact List.drop_left' (by simp)
    rw [linG, e1, if_neg (by simp), eol_line n _ (hn n (by simp))]
    simp only
    rw [h2, h3, lin_tab l k _ (fun n hx => hn n (by simp [hx])) (by omega), linP]
theorem lins_tab (l : List W) (h : ∀ n ∈ l, ∀ c ∈ n, c ≠ 47) : lins (tabL l) = linP l 0 := lin_tab l _ 0 h (Nat.le_refl _)
theorem linP_names : ∀ (l : List W) (a : Nat), (linP l a).map Prod.snd = l
  | [], _ => rfl
  | n :: l, a => by simp [linP, linP_names l]
theorem valid_no {n : W} (h : validN n = true) : ∀ c ∈ n, c ≠ 47 := by
  intro c hc e
  subst e
  simp [validN, hasAny] at h
  have := h.2 47 hc
  simp at this
theorem ent_tab (l : List W) (h : ∀ n ∈ l, validN n = true) : entE (tabL l) = 0 := by
  rw [entE, if_pos]
  rw [lins_tab l fun n hn => valid_no (h n hn), List.all_eq_true]
  intro p hp
  have : p.2 ∈ (linP l 0).map Prod.snd := List.mem_map_of_mem hp
  rw [linP_names] at this
  exact h _ this
/-- The name that a field denotes: nothing if there is none. -/
def lookP (l : List (Nat × W)) (n : Nat) : Option W := (l.find? fun p => p.1 == n).map Prod.snd
def rsl (f t : W) : Option W :=
  if f.getLast? = some 47 ∧ shortN f.dropLast = true then some f.dropLast
  else if f.head? = some 47 ∧ f.tail.length ≤ 15 ∧ f.tail.contains 32 = false ∧ prsE f.tail 10 = 0 then lookP (lins t) (prsN f.tail 10)
  else none
def rslE (f t : W) : Int := if (rsl f t).isSome then 0 else 6
def rslN (f t : W) : W := (rsl f t).getD []
theorem rsl_short {n : W} (t : W) (h : shortN n = true) : rsl (n ++ [47]) t = some n := by
  rw [rsl, if_pos ⟨by simp, by simpa using h⟩]
  simp
theorem linP_look : ∀ (l m : List W) (n : W) (a : Nat), lookP (linP (l ++ n :: m) a) (a + (tabL l).length) = some n
  | [], m, n, a => by simp [linP, lookP, tabL]
  | x :: l, m, n, a => by
    have e1 : (tabL (x :: l)).length = x.length + 2 + (tabL l).length := by simp [tabL]; omega
    have ih := linP_look l m n (a + x.length + 2)
    rw [List.cons_append, linP, lookP, List.find?_cons_of_neg (by simp [e1])]
    rw [lookP] at ih
    rw [e1, show a + (x.length + 2 + (tabL l).length) = a + x.length + 2 + (tabL l).length by omega]
    exact ih
theorem tx_prs (n : Nat) (h : n ≤ 2000000) : prsE (tx 10 n) 10 = 0 ∧ prsN (tx 10 n) 10 = n ∧ (tx 10 n).length ≤ 15 := by
  have hl := tx_len 10 n
  have h7 : nd 10 n ≤ 7 := nd_lt_pow 10 (by omega) 6 n (by omega)
  have hp := nd_pos 10 n
  have hE : fmtE n 10 (nd 10 n : Nat) = 0 := by
    rw [fmtE, if_neg (by omega), if_neg (by simp)]
  obtain ⟨h1, h2⟩ := prs_fmt hE
  have hL : fmtL n 10 (nd 10 n : Nat) = tx 10 n := by
    rw [fmtL, if_pos hE]
    simp
  rw [hL] at h1 h2
  exact ⟨h1, by omega, by omega⟩
theorem tx_last (n : Nat) : ∃ c, (tx 10 n).getLast? = some c ∧ c ≠ 47 := by
  have hp : 0 < (tx 10 n).length := by rw [tx_len]; exact nd_pos _ _
  have hne : tx 10 n ≠ [] := List.length_pos_iff.1 hp
  refine ⟨_, List.getLast?_eq_some_getLast hne, ?_⟩
  have := tx_isd 10 n (by omega) _ (List.getLast_mem hne)
  intro e
  rw [e] at this
  simp [isd] at this
theorem rsl_long (l m : List W) (n : W) (hv : ∀ x ∈ l ++ n :: m, validN x = true) (hb : (tabL l).length ≤ 2000000) : rsl (47 :: tx 10 (tabL l).length) (tabL (l ++ n :: m)) = some n := by
  obtain ⟨h1, h2, h3⟩ := tx_prs _ hb
  obtain ⟨c, hc, hne⟩ := tx_last (tabL l).length
  have hpos : tx 10 (tabL l).length ≠ [] := by intro e; rw [e] at hc; simp at hc
  have hl : (47 :: tx 10 (tabL l).length).getLast? = some c := by
    rw [List.getLast?_cons_of_ne_nil hpos]; exact hc
  have hsp : (tx 10 (tabL l).length).contains 32 = false := by
    rw [List.contains_eq_any_beq, List.any_eq_false]
    intro x hx
    have := tx_isd 10 _ (by omega) x hx
    intro e
    have : x = 32 := by simpa using (beq_iff_eq.1 e).symm
    subst this
    simp [isd] at *
  rw [rsl, if_neg (by rw [hl]; simp [hne]), if_pos ⟨by simp, by simpa using h3, by simpa using hsp, by simpa using h1⟩]
  simp only [List.tail_cons]
  rw [h2, lins_tab _ fun x hx => valid_no (hv x hx)]
  have := linP_look l m n 0
  simpa using this
theorem bldT_long (l : List W) (h : l.all validN = true) : bldT l = tabL (longL l) := by rw [bldT, if_pos h, bld_fst]
/-- Every name's field denotes it. -/
theorem bld_rsl (l : List W) (hv : l.all validN = true) (hl : fewN l) : ∀ (i : Nat) (n f : W), l[i]? = some n → (bldF l)[i]? = some f → rsl f (bldT l) = some n := by
  have hlen := (bld_len l hl.2).2
  have key : ∀ i n f, i ≤ l.length → l[i]? = some n → (bld l).2[i]? = some f → f = if shortN n then n ++ [47] else 47 :: tx 10 (bld (l.take i)).1.length := by
    intro i n f hi hn hf
    have hi' : i < l.length := (List.getElem?_eq_some_iff.1 hn).1
    have hpre : ∀ k, ∀ j, j < i + 1 → (bld (l.take (i + 1 + k))).2[j]? = (bld (l.take (i + 1))).2[j]? := by
      intro k
      induction k with
      | zero => intro j _; rfl
      | succ k ih =>
        intro j hj
        rw [← ih j hj]
        by_cases hk : i + 1 + k < l.length
        · obtain ⟨x, hx⟩ := get_ex hk
          have hb := bld_take hx
          rw [show i + 1 + (k + 1) = i + 1 + k + 1 by omega, hb]
          have hll := (bld_len (l.take (i + 1 + k)) fun n hn => hl.2 n (List.mem_of_mem_take hn)).2
          have : (l.take (i + 1 + k)).length = i + 1 + k := by simp; omega
          unfold bldS
          split <;> exact List.getElem?_append_left (by omega)
        · rw [List.take_of_length_le (by omega), List.take_of_length_le (by omega)]
    have h1 := hpre (l.length - (i + 1)) i (by omega)
    rw [show i + 1 + (l.length - (i + 1)) = l.length by omega, List.take_length, hf, bld_take hn] at h1
    have hll := (bld_len (l.take i) fun n hn => hl.2 n (List.mem_of_mem_take hn)).2
    have hli : (l.take i).length = i := by simp; omega
    unfold bldS at h1
    split at h1
    · rename_i hs
      rw [List.getElem?_append_right (by omega), show i - (bld (l.take i)).2.length = 0 by omega] at h1
      simp at h1
      rw [if_pos hs, h1]
    · rename_i hs
      rw [List.getElem?_append_right (by omega), show i - (bld (l.take i)).2.length = 0 by omega] at h1
      simp at h1
      rw [if_neg hs, h1]
  intro i n f hn hf
  have hi := (List.getElem?_eq_some_iff.1 hn).1
  have hfe : f = _ := key i n f (by omega) hn (by rwa [bldF, if_pos hv] at hf)
  have hvn := List.all_eq_true.1 hv n (List.mem_of_getElem? hn)
  cases hs : shortN n with
  | true => rw [hs, if_pos rfl] at hfe; rw [hfe]; exact rsl_short _ hs
  | false =>
    rw [hs, if_neg (by simp)] at hfe
    have hsplit : l = l.take i ++ n :: l.drop (i + 1) := by
      conv => lhs; rw [← List.take_append_drop i l]
      congr 1
      rw [List.drop_eq_getElem_cons hi]
      congr 1
      exact (List.getElem?_eq_some_iff.1 hn).2
    have hlong : longL l = longL (l.take i) ++ n :: longL (l.drop (i + 1)) := by
      conv => lhs; rw [hsplit]
      simp [longL, hs]
    have hb := bld_fst (l.take i)
    have hbl := (bld_len (l.take i) fun n hn => hl.2 n (List.mem_of_mem_take hn)).1
    have hli : (l.take i).length ≤ 1000 := by have := hl.1; simp; omega
    rw [hfe, hb, bldT_long l hv, hlong]
    refine rsl_long _ _ _ ?_ (by rw [← hb]; omega)
    intro x hx
    rw [← hlong] at hx
    exact List.all_eq_true.1 hv x (List.mem_filter.1 hx).1
/-- A parser's state. -/
structure PS where
  hm : Bool
  mp : W
  mem : List M
  off : List Int
  tab : W
  ht : Bool
def PS0 : PS := ⟨false, [], [], [], [], false⟩
def PS.first (x : PS) : Bool := x.mem.isEmpty && !x.ht
/-- What a part adds, and the error. -/
def addE (h : H) (d : W) (x : PS) : Int :=
  if h.name = [47] then (if x.first = false ∨ x.hm = true then 8 else 0)
  else if h.name = [47, 47] then (if entE d ≠ 0 ∨ x.first = false then 7 else 0)
  else rslE h.name x.tab
def addX (a : Int) (h : H) (d : W) (x : PS) : PS :=
  if h.name = [47] then { x with hm := true, mp := d }
  else if h.name = [47, 47] then { x with ht := true, tab := d }
  else { x with mem := x.mem ++ [⟨rslN h.name x.tab, h.t, h.u, h.g, h.m, d⟩], off := x.off ++ [a] }
/-- The parts of an archive, one after the other. -/
def go : Nat → W → Nat → PS → PS × Nat × Int
  | 0, _, _, x => (x, 0, 0)
  | k + 1, b, a, x => if b = [] then (x, 0, 0) else if nxtE b ≠ 0 then (PS0, a, nxtE b)
    else if addE (nxtH b) (nxtD b) x ≠ 0 then (PS0, a, addE (nxtH b) (nxtD b) x)
    else go k (b.drop (nxtN b)) (a + nxtN b) (addX a (nxtH b) (nxtD b) x)
theorem nxtN_pos {b : W} (h : nxtE b = 0) : 60 ≤ nxtN b ∧ nxtN b ≤ b.length := by
  rw [nxtN, if_pos h]
  unfold nxtE at h
  split at h
  · rename_i h1; exact absurd h h1
  · split at h
    · omega
    · omega
theorem go_fuel : ∀ (k k' : Nat) (b : W) (a : Nat) (x : PS), b.length ≤ k → b.length ≤ k' → go k b a x = go k' b a x
  | 0, k', b, a, x, h, _ => by
    have : b = [] := List.length_eq_zero_iff.1 (by omega)
    subst this
    cases k' <;> simp [go]
  | k + 1, 0, b, a, x, _, h => by
    have : b = [] := List.length_eq_zero_iff.1 (by omega)
    subst this
    simp [go]
  | k + 1, k' + 1, b, a, x, h, h' => by
    rw [go, go]
    split
    · rfl
    · split
      · rfl
      · split
        · rfl
        · rename_i hb hn _
          have hn := nxtN_pos (by simpa using hn)
          exact go_fuel k k' _ _ _ (by simp; omega) (by simp; omega)
theorem go_part {k : Nat} {h : H} {d rest : W} {a : Nat} {x : PS} (h0 : encE (h.sized d) = 0) (he : addE (h.sized d) d x = 0) (hk : (partL h d ++ rest).length ≤ k) :
    go k (partL h d ++ rest) a x = go rest.length rest (a + (partL h d).length) (addX a (h.sized d) d x) := by
  obtain ⟨h1, h2, h3, h4⟩ := nxt_part h d rest h0
  have hne : partL h d ++ rest ≠ [] := by
    intro e
    have := partL_len0 h0
    have hl : (partL h d).length = 0 := by rw [(List.append_eq_nil_iff.1 e).1]; rfl
    unfold psz at this; omega
  obtain ⟨k', rfl⟩ : ∃ k', k = k' + 1 := ⟨k - 1, by
    have : 0 < (partL h d ++ rest).length := List.length_pos_iff.2 hne
    omega⟩
  have hpos := nxtN_pos h1
  rw [go, if_neg hne, if_neg (by simp [h1]), h3, h4, if_neg (by simp [he]), h2, List.drop_left]
  rw [h2] at hpos
  exact go_fuel _ _ _ _ _ (by simp at hk; omega) (Nat.le_refl _)
/-- The archive, the place and the error. -/
def prsG (b : W) : PS × Nat × Int := if b.length < 8 then (PS0, 0, 2) else if b.take 8 ≠ magic then (PS0, 0, 1) else go b.length (b.drop 8) 8 PS0
theorem go_mems : ∀ (z : List (M × W)) (k a : Nat) (x : PS), (∀ p ∈ z, encE ((hdrM p.1 p.2).sized p.1.data) = 0 ∧ p.2 ≠ [47] ∧ p.2 ≠ [47, 47] ∧ rsl p.2 x.tab = some p.1.name) → (memsL z).length ≤ k →
    go k (memsL z) a x = ({ x with mem := x.mem ++ z.map Prod.fst, off := x.off ++ offsL a z z.length }, 0, 0)
  | [], k, a, x, _, _ => by cases k <;> simp [memsL, go, offsL]
  | p :: z, k, a, x, hz, hk => by
    obtain ⟨h1, h2, h3, h4⟩ := hz p (by simp)
    have e1 : memsL (p :: z) = partL (hdrM p.1 p.2) p.1.data ++ memsL z := by simp [memsL]
    have hnm : ((hdrM p.1 p.2).sized p.1.data).name = p.2 := rfl
    have hE : addE ((hdrM p.1 p.2).sized p.1.data) p.1.data x = 0 := by
      rw [addE, hnm, if_neg h2, if_neg h3, rslE, h4]; rfl
    have hX : addX a ((hdrM p.1 p.2).sized p.1.data) p.1.data x = { x with mem := x.mem ++ [p.1], off := x.off ++ [(a : Int)] } := by
      rw [addX, hnm, if_neg h2, if_neg h3, rslN, h4]; rfl
    rw [e1] at hk ⊢
    rw [go_part h1 hE hk, hX, go_mems z _ _ { x with mem := x.mem ++ [p.1], off := x.off ++ [(a : Int)] } (fun q hq => hz q (by simp [hq])) (Nat.le_refl _)]
    have ho : offsL a (p :: z) (z.length + 1) = (a : Int) :: offsL (a + (partL (hdrM p.1 p.2) p.1.data).length) z z.length := by
      rw [offsL, List.range_succ_eq_map, List.map_cons, List.map_map]
      congr 1
      unfold offsL
      refine List.map_congr_left fun i _ => ?_
      simp [memsL]
      omega
    simp [ho]
/-- What was written is read back. -/
theorem prs_out (hm : Bool) (m : W) (l : List M) (hmm : m.length ≤ 2000000) (hl : fewM l) (h0 : (fitsI l).2 = 0) :
    prsG (outL hm m l) = (⟨hm, if hm then m else [], l, refO hm m l, nmsT l, decide (nmsT l ≠ [])⟩, 0, 0) := by
  have hv := all_valid h0
  have hF := nmsF_len hl h0
  have hz := zip_ok hl h0
  have hT := nmsT_len hl
  have e1 : outL hm m l = magic ++ (preMap hm m ++ (preTab (nmsT l) ++ memsL (zipL l))) := by rw [outL, if_pos h0, eachL]
  have hmg : magic.length = 8 := rfl
  have hzl : (zipL l).length = l.length := by simp [zipL, hF]
  have hfst : (zipL l).map Prod.fst = l := by
    unfold zipL
    exact List.map_fst_zip (by omega)
  rw [prsG, if_neg (by rw [e1]; simp [hmg]), if_neg (by rw [e1, List.take_append_of_le_length (by simp [hmg]), ← hmg]; simp), e1, List.drop_append_of_le_length (by simp [hmg]), show magic.drop 8 = [] from rfl, List.nil_append]
  have s1 : ∀ k, (preMap hm m ++ (preTab (nmsT l) ++ memsL (zipL l))).length ≤ k → go k (preMap hm m ++ (preTab (nmsT l) ++ memsL (zipL l))) 8 PS0
      = go (preTab (nmsT l) ++ memsL (zipL l)).length (preTab (nmsT l) ++ memsL (zipL l)) (8 + (preMap hm m).length) { PS0 with hm := hm, mp := if hm then m else [] } := by
    intro k hk
    cases hm with
    | false => exact go_fuel _ _ _ _ _ (by simpa [preMap] using hk) (Nat.le_refl _)
    | true =>
      have hE : addE (hMap.sized m) m PS0 = 0 := by simp [addE, hMap, H.sized, PS.first, PS0]
      have hX : addX 8 (hMap.sized m) m PS0 = { PS0 with hm := true, mp := m } := by simp [addX, hMap, H.sized]
      have hp : preMap true m = partL hMap m := by simp [preMap]
      rw [hp] at hk ⊢
      have := go_part (a := 8) (map_ok m hmm) hE hk
      rw [this]
      simp [hX]
  rw [s1 _ (by simp), preTab]
  have hr : ∀ p ∈ zipL l, encE ((hdrM p.1 p.2).sized p.1.data) = 0 ∧ p.2 ≠ [47] ∧ p.2 ≠ [47, 47] ∧ rsl p.2 (nmsT l) = some p.1.name := by
    intro p hp
    obtain ⟨i, hi⟩ := List.getElem?_of_mem hp
    obtain ⟨h1, h2, h3⟩ := hz p hp
    unfold zipL at hi
    rw [List.getElem?_zip_eq_some] at hi
    have hrs := bld_rsl (l.map M.name) hv (fewN_of hl) i p.1.name p.2 (by rw [List.getElem?_map, hi.1]; rfl) hi.2
    have hfit := bld_fits (l.map M.name) hv (fewN_of hl).2 (fewN_of hl).1 p.2 (by
      have := List.mem_of_getElem? hi.2
      rwa [nmsF, bldF, if_pos hv] at this)
    refine ⟨h1, fun e => ?_, hfit.2, hrs⟩
    rw [e] at hrs
    simp [rsl, shortN, validN, prsE] at hrs
  by_cases ht : nmsT l = []
  · rw [ht] at hr
    rw [if_pos ht, List.nil_append, go_mems (zipL l) _ _ { PS0 with hm := hm, mp := if hm then m else [] } hr (Nat.le_refl _), hfst]
    simp [PS0, refO, h0, hzl, baseL, preTab, ht, hmg]
  · have hE : addE (hTab.sized (nmsT l)) (nmsT l) { PS0 with hm := hm, mp := if hm then m else [] } = 0 := by
      have he : entE (nmsT l) = 0 := by
        rw [nmsT, bldT_long _ hv]
        exact ent_tab _ fun n hn => List.all_eq_true.1 hv n (List.mem_filter.1 hn).1
      simp [addE, hTab, H.sized, he, PS.first, PS0]
    have hX : ∀ a, addX a (hTab.sized (nmsT l)) (nmsT l) { PS0 with hm := hm, mp := if hm then m else [] } = { PS0 with hm := hm, mp := (if hm then m else []), ht := true, tab := nmsT l } := fun a => by simp [addX, hTab, H.sized]
    rw [if_neg ht, go_part (tab_ok _ (by omega)) hE (Nat.le_refl _), hX, go_mems (zipL l) _ _ { PS0 with hm := hm, mp := (if hm then m else []), ht := true, tab := nmsT l } hr (Nat.le_refl _), hfst]
    simp [PS0, refO, h0, hzl, baseL, preTab, ht, hmg, Nat.add_assoc]
end Go.Proofs.YtcjdagpadnahfaaGreatDoor
