/- Merged texts, in order: Escaped forms, the reference's; texts in pieces. No condition. | Texts in pieces, numbers, names. No condition. | Lines, the program's: closures that clear a flag, the kinds of lines. No condition. | Lines of units with members. No condition. -/
import Derived.Test.YtebjdgcnnonjoaaDoorGE
section
set_option linter.unusedVariables false
set_option linter.unusedSimpArgs false
set_option linter.unnecessarySimpa false
namespace Go.Proofs.YtebjdgcnnonjoaaDoor
open Go Go.AW
set_option maxRecDepth 100000
set_option maxHeartbeats 8000000

/-- The byte with this escaped form. -/
def dec3 (w : W) : Option UInt8 := match w with
  | [p, a, b] => if p = 37 ∧ hexOk a b = true then some (byteOf a b) else none
  | _ => none
theorem esc1_inj {c d : UInt8} (h : esc1 c = esc1 d) : c = d := by
  have h1 := un_esc1 c []
  have h2 := un_esc1 d []
  rw [h] at h1
  rw [h1] at h2
  simpa [un] using h2
theorem dec3_iff {w : W} {c : UInt8} (hl : w[0]? = some 37) : dec3 w = some c ↔ esc1 c = w ∧ w.length = 3 := by
  constructor
  · intro h
    unfold dec3 at h
    split at h
    · rename_i p a b
      split at h
      · rename_i hk
        cases h
        obtain ⟨rfl, hk⟩ := hk
        exact ⟨esc1_byteOf hk, rfl⟩
      · cases h
    · cases h
  · rintro ⟨h, hl3⟩
    have hcl := c.toNat_lt
    have hn : ¬ plainB c = true := by
      intro hp
      rw [esc1, if_pos hp] at h
      rw [← h] at hl3
      simp at hl3
    rw [esc1, if_neg hn] at h
    subst h
    have hk : hexOk (hx (c.toNat / 16)) (hx (c.toNat % 16)) = true := by
      rw [hexOk, byteOf_hx, hv_hx _ (by omega), hv_hx _ (by omega)]
      simp [hn]
      omega
    simp [dec3, hk, byteOf_hx]
/-- The reference's way: percent signs and what follows them are taken, other bytes stand for themselves. -/
def raw : W → Option W
  | [] => some []
  | c :: r => if c = 37 then (match r with
      | a :: b :: r' => if hexOk a b = true then (raw r').map (byteOf a b :: ·) else none
      | _ => none)
    else (raw r).map (c :: ·)
theorem raw_ne {c : UInt8} {r : W} (h : c ≠ 37) : raw (c :: r) = (raw r).map (c :: ·) := by
  match r with
  | [] => simp [raw, h]
  | [a] => simp [raw, h]
  | a :: b :: r' => rw [raw, if_neg h]
theorem raw_of_un : ∀ (s o : W), un s = some o → raw s = some o := by
  intro s
  induction s using un.induct with
  | case1 => intro o h; simpa [un, raw] using h
  | case2 a b r' hk ih =>
    intro o h
    simp [un, hk] at h
    obtain ⟨o', h1, rfl⟩ := h
    simp [raw, hk, ih o' h1]
  | case3 a b r' hk => intro o h; simp [un, hk] at h
  | case4 r hr =>
    intro o h
    unfold un at h
    rw [if_pos rfl] at h
    split at h
    · exact absurd rfl (hr _ _ _)
    · cases h
  | case5 c r hc hp ih =>
    intro o h
    rw [un_ne hc, if_pos hp] at h
    simp at h
    obtain ⟨o', h1, rfl⟩ := h
    rw [raw_ne hc, ih o' h1]; rfl
  | case6 c r hc hp => intro o h; rw [un_ne hc, if_neg hp] at h; cases h
theorem rawV (s : W) : unV s = match raw s with
    | some o => if esc o = s then (o, true) else ([], false)
    | none => ([], false) := by
  unfold unV
  cases hu : un s with
  | some o =>
    rw [raw_of_un s o hu]
    simp [un_iff.1 hu]
  | none =>
    cases hr : raw s with
    | none => rfl
    | some o =>
      have : ¬ esc o = s := fun h => by rw [un_iff.2 h] at hu; cases hu
      simp [this]
def fdB (d : Option UInt8) (c : Nat) : Bool := match d with
  | some x => decide (x.toNat < c)
  | none => false
def otW (d : Option UInt8) (c : Nat) : W := match d with
  | some x => if x.toNat < c then [x] else []
  | none => []
theorem fdB_0 (d : Option UInt8) : fdB d 0 = false := by cases d <;> simp [fdB]
theorem otW_0 (d : Option UInt8) : otW d 0 = [] := by cases d <;> simp [otW]
theorem fdB_256 (d : Option UInt8) : fdB d 256 = d.isSome := by
  cases d with
  | none => rfl
  | some x => have := x.toNat_lt; simp [fdB]; omega
theorem otW_256 (d : Option UInt8) : otW d 256 = d.toList := by
  cases d with
  | none => rfl
  | some x => have := x.toNat_lt; simp [otW]; omega
theorem otW_len (d : Option UInt8) (c : Nat) : (otW d c).length ≤ 1 := by
  unfold otW; split
  · split <;> simp
  · simp
theorem rUnescape_p (s : W) (hs : s.length ≤ 10000000) : Pur E 12 [str s] (.tup [str (unV s).1, boolV (unV s).2]) := by
  rw [rawV]
  refine Pur.enter [6000016] Tryd.func12 rfl Tryd.ntmps12 Tryd.results12 hmE (by kernel_rfl) (by simp) (by simp) fun σ hσ => ?_
  conv => arg 5; cbv
  simp
  refine loop_e hmE (by kernel_rfl) (0, ([] : W)) (fun x : Nat × W => [(4, str x.2), (5, intV x.1)]) (fun x => σ) (fun x => x.1 ≤ s.length ∧ x.2.length ≤ x.1 ∧ raw s = (raw (s.drop x.1)).map (x.2 ++ ·)) (fun x => s.length - x.1) (by simp) (fun x hx => ⟨by simp, hσ, by simp⟩) (by simp) (by simp) fun x hx => ?_
  obtain ⟨i, out⟩ := x
  obtain ⟨h1, h2, h3⟩ := hx
  simp only at h1 h2 h3
  simp
  refine ⟨fun h => ⟨h, ?_⟩, fun h => ?_⟩
  · obtain ⟨b, hb⟩ := get_ex h
    have hbl := b.toNat_lt
    have hdrop : s.drop i = b :: s.drop (i + 1) := by
      have e := List.getElem?_eq_some_iff.1 hb
      rw [List.drop_eq_getElem_cons e.1, e.2]
    rw [hdrop] at h3
    have w1 : IntKind.i64.wrap ((i : Int) + 1) = (i : Int) + 1 := wrap64_id (by omega) (by omega)
    have w3 : IntKind.i64.wrap ((i : Int) + 3) = (i : Int) + 3 := wrap64_id (by omega) (by omega)
    have t1 : ((i : Int) + 1).toNat - i = 1 := by omega
    have t3 : ((i : Int) + 3).toNat - i = 3 := by omega
    have m1 : min 1 (s.length - i) = 1 := by omega
    by_cases h37 : b = 37
    · subst h37
      by_cases h3l : i + 3 ≤ s.length
      · obtain ⟨a1, ha1⟩ := get_ex (l := s) (i := i + 1) (by omega)
        obtain ⟨a2, ha2⟩ := get_ex (l := s) (i := i + 2) (by omega)
        have hd2 : s.drop (i + 1) = a1 :: a2 :: s.drop (i + 3) := by
          have e := List.getElem?_eq_some_iff.1 ha1
          have e2 := List.getElem?_eq_some_iff.1 ha2
          rw [List.drop_eq_getElem_cons e.1, e.2, List.drop_eq_getElem_cons e2.1, e2.2]
        have hw3 : (s.drop i).take 3 = [37, a1, a2] := by rw [hdrop, hd2]; rfl
        obtain ⟨d, hd⟩ : ∃ d, d = dec3 [37, a1, a2] := ⟨_, rfl⟩
        simp [hb]
        refine loop_x hmE (by kernel_rfl) (· + 1) 0 (fun c : Nat => [(7, intV c), (6, boolV (fdB d c)), (4, str (out ++ otW d c))]) (fun _ => σ) (fun c => c ≤ 256) (fun c => 256 - c) (by omega) (fun c hc => ⟨by simp, hσ, by simp⟩) (by simp) (by simp [fdB_0, otW_0]) fun c hc => ?_
        have hmin : min 3 (s.length - i) = 3 := by omega
        by_cases hc2 : c < 256
        · obtain ⟨b, hbc⟩ : ∃ b : UInt8, b = UInt8.ofNat c := ⟨_, rfl⟩
          have hbt : b.toNat = c := by rw [hbc]; simp; omega
          have w8 : IntKind.u8.wrap (c : Int) = b.toNat := by rw [wrap8 c hc2, hbt]
          have wc : IntKind.i64.wrap ((c : Int) + 1) = (c : Int) + 1 := wrap64_id (by omega) (by omega)
          have hesc : esc [b] = esc1 b := by simp [esc]
          have hdi : d = some b ↔ esc1 b = [37, a1, a2] := by
            rw [hd, dec3_iff rfl]; simp
          cases hf : fdB d c with
          | true =>
            have hf1 : fdB d (c + 1) = true ∧ otW d (c + 1) = otW d c := by
              cases d with
              | none => simp [fdB] at hf
              | some x => simp [fdB] at hf; simp [fdB, otW, hf]; omega
            simp [w3, t3, h3l, w8, wc, hf, hf1, show (c : Int) < 256 by omega, show (i : Int) + 3 ≤ s.length by omega]
            omega
          | false =>
            have hot : otW d c = [] := by
              cases d with
              | none => rfl
              | some x => simp [fdB] at hf; simp [otW]; omega
            simp [w3, t3, h3l, w8, wc, hf, hot, show (c : Int) < 256 by omega, show (i : Int) + 3 ≤ s.length by omega]
            refine Pur.q (rEscape_p [b] (by simp)) ?_
            by_cases he : esc1 b = [37, a1, a2]
            · have hdb := hdi.2 he
              have hf1 : fdB d (c + 1) = true ∧ otW d (c + 1) = [b] := by rw [hdb]; simp [fdB, otW, hbt]
              simp [hesc, he, w3, t3, hw3, hmin, hf1, wc, show out.length ≤ 9223372036854775806 by omega]
              omega
            · have hne : d ≠ some b := fun e => he (hdi.1 e)
              have hf1 : fdB d (c + 1) = false ∧ otW d (c + 1) = [] := by
                cases d with
                | none => exact ⟨rfl, rfl⟩
                | some x =>
                  simp [fdB] at hf
                  have hxb : x.toNat ≠ c := fun e => hne (by rw [show x = b from UInt8.toNat_inj.1 (by omega)])
                  simp [fdB, otW]
                  omega
              simp [hesc, he, w3, t3, hw3, hmin, hf1, wc, show out.length ≤ 9223372036854775806 by omega]
              omega
        · have hc3 : c = 256 := by omega
          subst hc3
          rw [fdB_256, otW_256]
          simp
          rw [hd2, raw, if_pos rfl] at h3
          refine ⟨fun hn => ?_, fun hs => ?_⟩
          · have hk : ¬ hexOk a1 a2 = true := by
              intro hk
              rw [hd, dec3] at hn
              simp [hk] at hn
            have hr : raw s = none := by rw [h3, if_neg hk]; rfl
            rw [hr]
            exact ⟨rfl, rfl⟩
          · have hk : hexOk a1 a2 = true := by
              rw [hd, dec3] at hs
              simp at hs
              exact hs
            have hdv : d = some (byteOf a1 a2) := by rw [hd, dec3]; simp [hk]
            rw [if_pos hk] at h3
            refine ⟨i + 3, out ++ [byteOf a1 a2], ⟨⟨h3l, by simp; omega, ?_⟩, by omega⟩, ?_⟩
            · rw [h3]
              cases raw (s.drop (i + 3)) <;> simp
            · simp [hdv, w3]
      · simp [hb]
        refine loop_x hmE (by kernel_rfl) (· + 1) 0 (fun c : Nat => [(7, intV c), (6, boolV false), (4, str out)]) (fun _ => σ) (fun c => c = 0) (fun c => 256 - c) rfl (fun c hc => ⟨by simp, hσ, by simp⟩) (by simp) (by simp) fun c hc => ?_
        subst hc
        have hr : raw s = none := by
          rw [h3]
          have hl : (s.drop (i + 1)).length < 2 := by simp; omega
          match hd : s.drop (i + 1), hl with
          | [], _ => simp [raw]
          | [a], _ => simp [raw]
        simp [w3, hr, show ¬ ((i : Int) + 3 ≤ s.length) by omega]
    · have hbi : ¬ (b.toNat : Int) = 37 := fun e => h37 (UInt8.toNat_inj.1 (by show b.toNat = 37; omega))
      rw [raw_ne h37] at h3
      simp [hb, hbi, w1, t1, m1, hdrop, show out.length ≤ 9223372036854775806 by omega]
      refine ⟨by omega, by omega, i + 1, out ++ [b], ⟨⟨by omega, by simp; omega, ?_⟩, by omega⟩, rfl, rfl⟩
      rw [h3]
      cases raw (s.drop (i + 1)) <;> simp
  · have hi : i = s.length := by omega
    subst hi
    simp [raw] at h3
    rw [h3]
    simp
    refine Pur.call (rEscape_p out (by omega)) ?_
    by_cases he : esc out = s
    · simp [he]
    · simp [he]
end Go.Proofs.YtebjdgcnnonjoaaDoor
end

section
set_option linter.unusedVariables false
set_option linter.unusedSimpArgs false
set_option linter.unnecessarySimpa false
namespace Go.Proofs.YtebjdgcnnonjoaaDoor
open Go Go.AW
set_option maxRecDepth 100000
set_option maxHeartbeats 8000000

/-- All pieces but the last, with the byte behind them. -/
def wnl (c : UInt8) : List W → List W
  | [] => []
  | [x] => [x]
  | x :: y :: l => (x ++ [c]) :: wnl c (y :: l)
def gs (c : UInt8) (sv : Bool) (s : W) : List W := if sv then wnl c (sp c s) else sp c s
theorem gs_no {c : UInt8} {s : W} (sv : Bool) (h : c ∉ s) : gs c sv s = [s] := by
  unfold gs; rw [sp_no c s h]; split <;> rfl
theorem gs_cons {c : UInt8} {a b : W} (sv : Bool) (h : c ∉ a) : gs c sv (a ++ c :: b) = (a ++ if sv then [c] else []) :: gs c sv b := by
  unfold gs
  rw [sp_cons c a b h]
  cases sv with
  | false => simp
  | true =>
    obtain ⟨y, l, hy⟩ := List.exists_cons_of_ne_nil (spA_ne c [] b)
    have hy : sp c b = y :: l := hy
    simp [hy, wnl]
theorem sb_strs {σ : Store} (hσ : StoreBel σ) (T : TypeId) (g : Nat) (l : List W) : StoreBel (σ.alloc (.arr T g (l.map str))) := hσ.alloc_arr (by simp)
theorem genSplit_p (s : W) (c : UInt8) (sv : Bool) (hs : s.length ≤ 100000) : Pur E 45 [str s, str [c], intV (if sv then 1 else 0), intV (-1)] (strs (gs c sv s)) := by
  refine Pur.enter [31] Tryd.func45 rfl Tryd.ntmps45 Tryd.results45 hmE (by kernel_rfl) (by simp) (by simp) fun σ hσ => ?_
  conv => arg 5; cbv
  have hN : s.count c ≤ s.length := List.count_le_length
  simp
  refine Pur.call (Count_p s c) ?_
  have w1 : IntKind.i64.wrap ((s.count c : Int) + 1) = (s.count c : Int) + 1 := wrap64_id (by omega) (by omega)
  have w2 : IntKind.i64.wrap ((s.length : Int) + 1) = (s.length : Int) + 1 := wrap64_id (by omega) (by omega)
  have w3 : IntKind.i64.wrap ((s.count c : Int) + 1 - 1) = (s.count c : Int) := (wrap64_id (by omega) (by omega)).trans (by omega)
  have e0 : ((s.count c : Int) + 1).toNat = s.count c + 1 := by omega
  have w4 : IntKind.i64.wrap (s.count c : Int) = (s.count c : Int) := wrap64_id (by omega) (by omega)
  simp [w1, w2, w3, w4, e0, show ¬ s.length < s.count c by omega]
  refine ⟨by omega, by omega, by omega, loop_e hmE (by kernel_rfl) (([] : List W), s) (fun x : List W × W => [(0, str x.2), (10, intV x.1.length)])
    (fun x => σ.alloc (.arr 9 0 ((x.1 ++ List.replicate (s.count c + 1 - x.1.length) []).map str)))
    (fun x => gs c sv s = x.1 ++ gs c sv x.2 ∧ x.1.length + x.2.count c = s.count c ∧ x.2.length ≤ s.length) (fun x => s.count c - x.1.length) (by simp) (fun x hx => ⟨by simp, sb_strs hσ _ _ _, by simp⟩) (by simp) (by simp) fun x hx => ?_⟩
  obtain ⟨fl, r⟩ := x
  obtain ⟨h1, h2, h3⟩ := hx
  simp only at h1 h2 h3
  obtain ⟨L, hL⟩ : ∃ L, L = fl ++ List.replicate (s.count c + 1 - fl.length) ([] : W) := ⟨_, rfl⟩
  have hLl : L.length = s.count c + 1 := by rw [hL]; simp; omega
  rw [← hL]
  simp
  refine ⟨fun hlt => ?_, fun hge => ?_⟩
  · refine Pur.call (Index_p r c) ?_
    have hm : c ∈ r := List.count_pos_iff.1 (by omega)
    obtain ⟨a, b, hr, hna, hix⟩ := ixB_split (ixB_ge0.2 hm)
    have hrl : r.length = a.length + 1 + b.length := by rw [hr]; simp; omega
    have hcb : r.count c = b.count c + 1 := by rw [hr]; simp [List.count_eq_zero_of_not_mem hna]
    have k1 : IntKind.i64.wrap ((a.length : Int) + 1) = (a.length : Int) + 1 := wrap64_id (by omega) (by omega)
    have k2 : IntKind.i64.wrap ((fl.length : Int) + 1) = (fl.length : Int) + 1 := wrap64_id (by omega) (by omega)
    have k3 : IntKind.i64.wrap (a.length : Int) = (a.length : Int) := wrap64_id (by omega) (by omega)
    have t1 : ((a.length : Int) + 1).toNat = a.length + 1 := by omega
    have d1 : r.drop (a.length + 1) = b := by rw [hr]; simp
    have d2 : r.take (a.length + 1) = a ++ [c] := by rw [hr, List.take_append, List.take_of_length_le (by omega)]; simp
    have d3 : r.take a.length = a := by rw [hr]; simp
    have d4 : b.take (r.length - (a.length + 1)) = b := by rw [List.take_of_length_le (by omega)]
    have hgs : gs c sv s = (fl ++ [a ++ if sv then [c] else []]) ++ gs c sv b := by rw [h1, hr, gs_cons sv hna]; simp
    have hset : ∀ x : W, (L.map str).set fl.length (str x) = ((fl ++ [x]) ++ List.replicate (s.count c + 1 - (fl.length + 1)) []).map str := by
      intro x
      rw [hL, show s.count c + 1 - fl.length = (s.count c + 1 - (fl.length + 1)) + 1 by omega, List.replicate_succ]
      rw [List.map_append, List.set_append_right _ _ (by simp)]
      simp
    rw [hix]
    obtain ⟨y, hy⟩ := get_ex (l := L) (i := fl.length) (by omega)
    cases sv with
    | true =>
      simp [k1, k2, t1, d1, d2, d4, hLl, hy, show ¬ (a.length : Int) < 0 by omega, show (a.length : Int) + 1 ≤ r.length by omega]
      refine ⟨by omega, by omega, by omega, fl ++ [a ++ [c]], b, ⟨⟨by simpa using hgs, by simp; omega, by omega⟩, by simp; omega⟩, ?_, rfl, by simp⟩
      have := hset (a ++ [c])
      simp at this
      simp [this]
    | false =>
      simp [k1, k2, k3, t1, d1, d2, d3, d4, hLl, hy, show ¬ (a.length : Int) < 0 by omega, show (a.length : Int) + 1 ≤ r.length by omega]
      refine ⟨by omega, by omega, by omega, fl ++ [a], b, ⟨⟨by simpa using hgs, by simp; omega, by omega⟩, by simp; omega⟩, ?_, rfl, by simp⟩
      have := hset a
      simp at this
      simp [this]
  · have hc0 : r.count c = 0 := by omega
    have hcr : c ∉ r := List.count_eq_zero.1 hc0
    have hfl : fl.length = s.count c := by omega
    obtain ⟨y, hy⟩ := get_ex (l := L) (i := fl.length) (by omega)
    have k2 : IntKind.i64.wrap ((fl.length : Int) + 1) = (fl.length : Int) + 1 := wrap64_id (by omega) (by omega)
    simp [hLl, hy, k2]
    refine ⟨by omega, by omega, by omega, ?_⟩
    rw [if_pos (by omega), h1, gs_no sv hcr, hL, hfl, show s.count c + 1 - s.count c = 1 by omega, ← hfl]
    simp [List.set_append]
    rw [List.take_of_length_le (by simp)]
theorem rSplit_p (s : W) (c : UInt8) (hs : s.length ≤ 100000) : Pur E 26 [str s, .c (.int .u8 c.toNat)] (strs (sp c s)) := by
  refine Pur.enter [3000005] Tryd.func26 rfl Tryd.ntmps26 Tryd.results26 hmE (by kernel_rfl) (by simp) (by simp) fun σ hσ => ?_
  conv => arg 5; cbv
  simp
  refine loop_e hmE (by kernel_rfl) ([], 0, 0) (fun x : List W × Nat × Nat => [(5, .lg σ.next (x.1.map str)), (6, intV x.2.1), (7, intV x.2.2)]) (fun x => σ.alloc (.log 9 x.1.length))
    (fun x => x.2.1 ≤ x.2.2 ∧ x.2.2 ≤ s.length ∧ x.1.length ≤ x.2.1 ∧ sp c s = x.1 ++ spA c ((s.drop x.2.1).take (x.2.2 - x.2.1)) (s.drop x.2.2)) (fun x => s.length - x.2.2) (by simp [sp]) (fun x hx => ⟨by simp, hσ.alloc_log _ _, by simp⟩) (by simp) (by simp) fun x hx => ?_
  obtain ⟨out, fr, i⟩ := x
  obtain ⟨h1, h2, h3, h4⟩ := hx
  simp only at h1 h2 h3 h4
  simp
  refine ⟨fun h => ⟨h, ?_⟩, fun h => ?_⟩
  · obtain ⟨b, hb⟩ := get_ex h
    have hdrop : s.drop i = b :: s.drop (i + 1) := by
      have e := List.getElem?_eq_some_iff.1 hb
      rw [List.drop_eq_getElem_cons e.1, e.2]
    have w1 : IntKind.i64.wrap ((i : Int) + 1) = (i : Int) + 1 := wrap64_id (by omega) (by omega)
    have hcur : (s.drop fr).take (i + 1 - fr) = (s.drop fr).take (i - fr) ++ [b] := by
      rw [show i + 1 - fr = (i - fr) + 1 by omega, List.take_add_one, List.getElem?_drop, show fr + (i - fr) = i by omega, hb]; rfl
    rw [hdrop, spA] at h4
    simp [hb, w1]
    refine ⟨fun he => ?_, fun he => ?_⟩
    · have hbc : b = c := UInt8.toNat_inj.1 (by omega)
      rw [if_pos hbc] at h4
      refine ⟨h1, by omega, by omega, by omega, out ++ [(s.drop fr).take (i - fr)], i + 1, i + 1, ⟨⟨by omega, by omega, by simp; omega, ?_⟩, by omega⟩, ?_, by simp, rfl, rfl⟩
      · rw [h4]; simp
      · first | (simp; done) | (simp; exact Below.refl _)
    · have hbc : ¬ b = c := fun e => he (by rw [e])
      rw [if_neg hbc] at h4
      refine ⟨out, fr, i + 1, ⟨⟨by omega, by omega, h3, ?_⟩, by omega⟩, Below.refl _, rfl, rfl, rfl⟩
      rw [h4, hcur]
  · have hi : i = s.length := by omega
    subst hi
    refine ⟨h1, by omega, by omega, ?_⟩
    rw [h4]
    simp [spA]
theorem Split_p (s : W) (c : UInt8) (hs : s.length ≤ 100000) : Pur E 25 [str s, str [c]] (strs (sp c s)) := by
  have h := genSplit_p s c false hs
  simp [gs] at h
  refine Pur.enter [] Tryd.func25 rfl Tryd.ntmps25 Tryd.results25 hmE (by kernel_rfl) (by simp) (by simp) fun σ hσ => ?_
  conv => arg 5; cbv
  simp
  refine Pur.call h ?_
  simp
theorem SplitAfter_p (s : W) (c : UInt8) (hs : s.length ≤ 100000) : Pur E 23 [str s, str [c]] (strs (wnl c (sp c s))) := by
  have h := genSplit_p s c true hs
  simp [gs] at h
  refine Pur.enter [] Tryd.func23 rfl Tryd.ntmps23 Tryd.results23 hmE (by kernel_rfl) (by simp) (by simp) fun σ hσ => ?_
  conv => arg 5; cbv
  simp
  refine Pur.call h ?_
  simp
def ixL (l : List W) (w : W) : Int := match l.idxOf? w with
  | some n => (n : Int)
  | none => -1
theorem ixL_hit {l : List W} {w : W} {i : Nat} (hx : l[i]? = some w) (hn : w ∉ l.take i) : ixL l w = i := by
  have hi := (List.getElem?_eq_some_iff.1 hx).1
  have : l.idxOf? w = some i := by
    rw [List.idxOf?, List.findIdx?_eq_some_iff_getElem]
    refine ⟨hi, by simpa using (List.getElem?_eq_some_iff.1 hx).2, fun j hj => ?_⟩
    simp
    intro e
    exact hn (by rw [← e]; exact List.mem_take_iff_getElem.2 ⟨j, by omega, rfl⟩)
  rw [ixL, this]
theorem ixL_no {l : List W} {w : W} (hn : w ∉ l) : ixL l w = -1 := by
  have : l.idxOf? w = none := by
    rw [List.idxOf?, List.findIdx?_eq_none_iff]
    intro x hx
    simp
    rintro rfl
    exact hn hx
  rw [ixL, this]
theorem SIndex_p (l : List W) (w : W) (hl : l.length ≤ 1000000) : Pur E 70 [strs l, str w] (intV (ixL l w)) := by
  refine Pur.enter [] Tryd.func70 rfl Tryd.ntmps70 Tryd.results70 hmE (by kernel_rfl) (by simp) (by simp) fun σ hσ => ?_
  conv => arg 5; cbv
  simp
  refine loop_n hmE (by kernel_rfl) l.length (fun i => [(8, intV i)]) (fun i => i ≤ l.length ∧ w ∉ l.take i) (Nat.le_refl _) hσ (by simp) (by simp) (by simp) fun i ⟨hi, hn⟩ => ?_
  simp
  refine ⟨fun h => ?_, fun h => ?_⟩
  · obtain ⟨x, hx⟩ := get_ex h
    have hw : IntKind.i64.wrap ((i : Int) + 1) = (i : Int) + 1 := wrap64_id (by omega) (by omega)
    simp [hx, hw]
    refine ⟨fun e => ?_, fun e => ⟨⟨h, ?_⟩, by omega⟩⟩
    · subst e
      rw [ixL_hit hx hn]
    · rw [List.take_add_one, hx]
      simp [hn, e]
  · rw [List.take_of_length_le h] at hn
    rw [ixL_no hn]
theorem binding_p (w : W) : Pur E 57 [str w] (.tup [intV (ixL bnames w), boolV (decide (0 < ixL bnames w))]) := by
  have hS := SIndex_p bnames w (by simp [bnames])
  have hb : ∀ a, (ixL bnames w = a) = (ixL bnames w = a) := fun _ => rfl
  refine Pur.enter [] Tryd.func57 rfl Tryd.ntmps57 Tryd.results57 hmE (by kernel_rfl) (by simp) (by simp) fun σ hσ => ?_
  conv => arg 5; cbv
  simp
  refine ⟨by simp [bnames], ?_⟩
  have e : (List.take 6 (List.map (fun x => frz ((Option.map str bnames[x]?).getD AV.junk)) (List.range 6))) = bnames.map str := by simp [bnames, List.range_succ]
  rw [e]
  refine Pur.call hS ?_
  simp
theorem num_p (n : Nat) (hn : n ≤ 9223372036854775807) : Pur E 38 [intV n] (str (tx 10 n)) := by
  refine Pur.enter [] Tryd.func38 rfl Tryd.ntmps38 Tryd.results38 hmE (by kernel_rfl) (by simp) (by simp) fun σ hσ => ?_
  conv => arg 5; cbv
  simp
  refine Pur.call (Itoa_p n hn) ?_
  simp
theorem name_p (s : W) (hs : s.length ≤ 100000000) : Pur E 54 [str s] (.tup [str (unV s).1, boolV ((unV s).2 && decide ((unV s).1 ≠ []))]) := by
  refine Pur.enter [] Tryd.func54 rfl Tryd.ntmps54 Tryd.results54 hmE (by kernel_rfl) (by simp) (by simp) fun σ hσ => ?_
  conv => arg 5; cbv
  simp
  refine Pur.call (Unescape_p s hs) ?_
  simp
  cases (unV s).2 <;> cases (unV s).1 <;> simp
theorem parseU_snoc (c : UInt8) (h1 : 48 ≤ c.toNat) (h2 : c.toNat ≤ 57) : ∀ (l : W) (acc u : Nat), Lib.parseUint10 acc l = .ok u → u * 10 + (c.toNat - 48) < 18446744073709551616 → Lib.parseUint10 acc (l ++ [c]) = .ok (u * 10 + (c.toNat - 48))
  | [], acc, u, h, hu => by
    simp [Lib.parseUint10] at h
    subst h
    simp only [List.nil_append, Lib.parseUint10]
    rw [if_pos ⟨h1, h2⟩, if_neg (by omega), if_neg (by omega)]
  | x :: l, acc, u, h, hu => by
    simp only [Lib.parseUint10, List.cons_append] at h ⊢
    split at h
    · rename_i hd
      rw [if_pos hd]
      split at h
      · cases h
      · rename_i h3
        rw [if_neg h3]
        split at h
        · cases h
        · rename_i h4
          rw [if_neg h4]
          exact parseU_snoc c h1 h2 l _ u h hu
    · cases h
theorem parseU_tx : ∀ n : Nat, n < 18446744073709551616 → Lib.parseUint10 0 (tx 10 n) = .ok n := by
  intro n
  induction n using Nat.strongRecOn with
  | _ n ih =>
    intro hn
    have hm : n % 10 < 10 := Nat.mod_lt _ (by omega)
    have hd := dg_toNat (n % 10) hm
    by_cases h : n < 10
    · rw [tx_lt h]
      have := parseU_snoc (dg (n % 10)) (by omega) (by omega) [] 0 0 rfl (by omega)
      simp only [List.nil_append] at this
      rw [this, hd]
      congr 1
      omega
    · rw [tx_ge (by omega) (by omega)]
      have := parseU_snoc (dg (n % 10)) (by omega) (by omega) (tx 10 (n / 10)) 0 (n / 10) (ih (n / 10) (by omega) (by omega)) (by omega)
      rw [this, hd]
      congr 1
      omega
theorem atoi_tx (n : Nat) (hn : n ≤ 9007199254740992) : Lib.atoiAll (tx 10 n) = .ok (n : Int) := by
  have hp := parseU_tx n (by omega)
  have hb := tx_no n
  cases hl : tx 10 n with
  | nil => have := tx_len 10 n; rw [hl] at this; have := nd_pos 10 n; simp at *; omega
  | cons c r =>
    rw [hl] at hp hb
    have hc := hb c (by simp)
    have h43 : ¬ (c.toNat = 43 ∨ c.toNat = 45) := by omega
    have h45 : ¬ c.toNat = 45 := by omega
    simp only [Lib.atoiAll]
    rw [if_neg h43, Lib.parseMag, if_neg (by simp), hp]
    simp only [h45, not_false_eq_true, true_and, false_and, if_false]
    rw [if_neg (by omega)]
theorem at_ok (s : W) : ((atV s).2 && (decide (0 ≤ (atV s).1) && (decide ((atV s).1 ≤ 9007199254740992) && (tx 10 (atV s).1.toNat == s)))) = numOk s := by
  rw [Bool.eq_iff_iff]
  constructor
  · intro h
    simp at h
    obtain ⟨h1, h2, h3, h4⟩ := h
    have hv := vl_tx 10 (atV s).1.toNat (by omega)
    rw [h4] at hv
    simp [numOk, hv, h4]
    omega
  · intro h
    simp [numOk] at h
    obtain ⟨h1, h2⟩ := h
    have ha : atV s = (((vl 10 s : Nat) : Int), true) := by
      have e := atoi_tx _ h1
      rw [← h2] at e
      rw [atV, e]
    rw [ha]
    simp
    exact ⟨by omega, h2.symm⟩
theorem at_val {s : W} (h : numOk s = true) : (atV s).1 = (vl 10 s : Nat) := by
  simp [numOk] at h
  obtain ⟨h1, h2⟩ := h
  have e := atoi_tx _ h1
  rw [← h2] at e
  rw [atV, e]
theorem number_p (s : W) (hs : s.length ≤ 1000000000) : Pur E 56 [str s] (.tup [intV (atV s).1, boolV (numOk s)]) := by
  rw [← at_ok]
  refine Pur.enter [] Tryd.func56 rfl Tryd.ntmps56 Tryd.results56 hmE (by kernel_rfl) (by simp) (by simp) fun σ hσ => ?_
  conv => arg 5; cbv
  simp
  refine Pur.call (Atoi_p s hs) ?_
  cases hb : (atV s).2 with
  | false => simp [errV]
  | true =>
    simp [errV]
    refine ⟨fun h0 => ⟨fun h1 => ?_, fun h1 _ h2 => by omega⟩, fun h0 h1 => by omega⟩
    obtain ⟨n, hn⟩ : ∃ n : Nat, (atV s).1 = n := ⟨(atV s).1.toNat, by omega⟩
    rw [hn] at h1 ⊢
    refine Pur.call (num_p n (by omega)) ?_
    simp [h1]
theorem unitNumber_p (s : W) (hs : s.length ≤ 1000000000) : Pur E 58 [str s] (.tup [intV (if s = [45] then -1 else (atV s).1), boolV (s == [45] || numOk s)]) := by
  refine Pur.enter [] Tryd.func58 rfl Tryd.ntmps58 Tryd.results58 hmE (by kernel_rfl) (by simp) (by simp) fun σ hσ => ?_
  conv => arg 5; cbv
  simp
  refine ⟨fun h => by simp [h], fun h => ?_⟩
  refine Pur.call (number_p s hs) ?_
  simp [h]
/-- The reference's number. -/
def rnum (s : W) : Int := if s.length = 0 ∨ 16 < s.length ∨ ¬ (s.all (isd 10)) = true then -1 else (vl 10 s : Nat)
theorem rnumber_p (s : W) (hs : s.length ≤ 1000000000) : Pur E 47 [str s] (intV (rnum s)) := by
  refine Pur.enter [] Tryd.func47 rfl Tryd.ntmps47 Tryd.results47 hmE (by kernel_rfl) (by simp) (by simp) fun σ hσ => ?_
  conv => arg 5; cbv
  simp
  have hloop : ¬ (s.length = 0 ∨ 16 < s.length) → rnum s = if s.all (isd 10) = true then ((vl 10 s : Nat) : Int) else -1 := by
    intro hl
    rw [rnum]
    by_cases ha : s.all (isd 10) = true
    · rw [if_neg (by rintro (h | h | h); exact hl (.inl h); exact hl (.inr h); exact h ha), if_pos ha]
    · rw [if_pos (.inr (.inr ha)), if_neg ha]
  by_cases hl : s.length = 0 ∨ 16 < s.length
  · rw [rnum, if_pos (by omega)]
    rcases hl with hl | hl
    · have : s = [] := List.eq_nil_of_length_eq_zero hl
      simp [this]
    · simp [show ¬ (s.length : Int) ≤ 16 by omega]
  · have hr := hloop hl
    simp [show ¬ (16 : Int) < s.length by omega, show (s.length : Int) ≤ 16 by omega]
    refine ⟨fun h0 => absurd (by rw [h0]; rfl) (fun e => hl (.inl e)), fun _ => ?_⟩
    refine loop_n hmE (by kernel_rfl) s.length (fun i => [(3, intV (vl 10 (s.take i) : Nat)), (4, intV i)]) (fun i => i ≤ s.length ∧ ∀ c ∈ s.take i, isd 10 c = true) (Nat.le_refl _) hσ (by simp) (by simp) (by simp [vl]) fun i ⟨hi, hd⟩ => ?_
    have hv := vl_lt 10 (by omega) (s.take i) hd
    have hp : 10 ^ (s.take i).length ≤ 10 ^ 16 := Nat.pow_le_pow_right (by omega) (by simp; omega)
    have hv2 : vl 10 (s.take i) < 10000000000000000 := Nat.lt_of_lt_of_le hv hp
    simp
    refine ⟨fun h => ⟨h, ?_⟩, fun h => ?_⟩
    · obtain ⟨c, hc⟩ := get_ex h
      have hcl := c.toNat_lt
      have hsn : s.take (i + 1) = s.take i ++ [c] := by rw [List.take_add_one, hc]; rfl
      have hwi : IntKind.i64.wrap ((i : Int) + 1) = (i : Int) + 1 := wrap64_id (by omega) (by omega)
      have hmem : c ∈ s := List.mem_of_getElem? hc
      by_cases hcd : isd 10 c = true
      · have hcd' := hcd
        simp [isd] at hcd'
        have hvs : vl 10 (s.take (i + 1)) = vl 10 (s.take i) * 10 + (c.toNat - 48) := by rw [hsn, vl_snoc]
        have q1 : IntKind.i64.wrap (10 * ((vl 10 (s.take i) : Nat) : Int)) = 10 * ((vl 10 (s.take i) : Nat) : Int) := wrap64_id (by omega) (by omega)
        have q2 : IntKind.i64.wrap (c.toNat : Int) = c.toNat := wrap64_id (by omega) (by omega)
        have q3 : IntKind.i64.wrap (10 * ((vl 10 (s.take i) : Nat) : Int) + c.toNat) = 10 * ((vl 10 (s.take i) : Nat) : Int) + c.toNat := wrap64_id (by omega) (by omega)
        have q4 : IntKind.i64.wrap (10 * ((vl 10 (s.take i) : Nat) : Int) + c.toNat - 48) = 10 * ((vl 10 (s.take i) : Nat) : Int) + c.toNat - 48 := wrap64_id (by omega) (by omega)
        simp [hc, hwi, q1, q2, q3, q4, show ¬ (c.toNat : Int) < 48 by omega, show ¬ (57 : Int) < c.toNat by omega, show (48 : Int) ≤ c.toNat by omega, show (c.toNat : Int) ≤ 57 by omega]
        refine ⟨h, by rw [hvs]; omega, ⟨h, fun x hx => ?_⟩, by omega⟩
        rw [hsn] at hx
        rcases List.mem_append.1 hx with hx | hx
        · exact hd x hx
        · simp at hx; subst hx; exact hcd
      · have hna : ¬ s.all (isd 10) = true := fun ha => hcd (List.all_eq_true.1 ha c hmem)
        rw [if_neg hna] at hr
        have hor : c.toNat < 48 ∨ 57 < c.toNat := by simp [isd] at hcd; omega
        rcases hor with hor | hor
        · simp [hc, hr, show (c.toNat : Int) < 48 by omega, show ¬ (48 : Int) ≤ c.toNat by omega]
        · simp [hc, hr, show ¬ (c.toNat : Int) < 48 by omega, show (48 : Int) ≤ c.toNat by omega, show (57 : Int) < c.toNat by omega, show ¬ (c.toNat : Int) ≤ 57 by omega]
          omega
    · rw [List.take_of_length_le h] at hd ⊢
      rw [hr, if_pos (List.all_eq_true.2 hd)]
theorem divw (n b : Nat) (hn : (n : Int) < 9223372036854775808) : IntKind.i64.wrap ((n : Int) / (b : Int)) = (n : Int) / (b : Int) := by
  have h4 : n / b ≤ n := Nat.div_le_self _ _
  have h2 : (n : Int) / (b : Int) = ((n / b : Nat) : Int) := by simp
  rw [h2]
  generalize n / b = q at h4
  exact wrap64_id (by omega) (by omega)
theorem modw (n b : Nat) (hb : b = 8 ∨ b = 10) : IntKind.i64.wrap ((n : Int) % (b : Int) + 1) = (n : Int) % (b : Int) + 1 := by
  have h3 : n % b < b := Nat.mod_lt _ (by omega)
  have h1 : (n : Int) % (b : Int) = ((n % b : Nat) : Int) := by simp
  rw [h1]
  exact wrap64_id (by omega) (by omega)
theorem Text_p (b : Nat) (hb : b = 8 ∨ b = 10) : ∀ n : Nat, n < 9223372036854775808 → Pur E 52 [intV n, intV b] (str (tx b n)) := by
  intro n
  induction n using Nat.strongRecOn with
  | _ n ih =>
  intro hn
  refine Pur.enter [] Tryd.func52 rfl Tryd.ntmps52 Tryd.results52 hmE (by kernel_rfl) (by simp) (by simp) fun σ hσ => ?_
  conv => arg 5; cbv
  have h0 : ¬ b = 0 := by omega
  have h3 : n % b < b := Nat.mod_lt _ (by omega)
  have h1 : (n : Int) % (b : Int) = ((n % b : Nat) : Int) := by simp
  have h5 : ((n : Int) % (b : Int)).toNat = n % b := by rw [h1]; rfl
  have h6 : ((n : Int) % (b : Int) + 1).toNat - n % b = 1 := by rw [h1]; omega
  simp [h0, divw n b (by omega), modw n b hb, h5, h6]
  have h10 : n % b < 10 := by omega
  have hd := digit_at (n % b) h10
  refine ⟨by omega, by omega, by omega, fun h => ?_, fun h => ?_⟩
  · rw [tx_lt h, hd]
  · have h7 := ih (n / b) (Nat.div_lt_self (by omega) (by omega)) (by have := Nat.div_le_self n b; omega)
    rw [show ((n / b : Nat) : Int) = (n : Int) / (b : Int) by simp] at h7
    refine Pur.call h7 ?_
    have hl : (tx b (n / b)).length ≤ 21 := by
      rw [tx_len]
      exact nd_le _ _ (by omega) (by have := Nat.div_le_self n b; omega)
    rw [hd]
    simp [show (tx b (n / b)).length ≤ 9223372036854775806 by omega, tx_ge (show 2 ≤ b by omega) h]
theorem rin_p (n : Int) : Pur E 33 [intV n] (boolV (inB n)) := by
  refine Pur.enter [] Tryd.func33 rfl Tryd.ntmps33 Tryd.results33 hmE (by kernel_rfl) (by simp) (by simp) fun σ hσ => ?_
  conv => arg 5; cbv
  simp
  rw [inB]
  refine ⟨fun h => by simp [h], fun h => by simp; omega⟩
theorem rbinding_p (n : Int) : Pur E 34 [intV n] (str (bnd n)) := by
  refine Pur.enter [] Tryd.func34 rfl Tryd.ntmps34 Tryd.results34 hmE (by kernel_rfl) (by simp) (by simp) fun σ hσ => ?_
  conv => arg 5; cbv
  simp
  refine ⟨fun h => by subst h; rfl, fun h1 => ⟨fun h => by subst h; rfl, fun h2 => ⟨fun h => by subst h; rfl, fun h3 => ⟨fun h => by subst h; rfl, fun h4 => ⟨fun h => by subst h; rfl, fun h5 => ?_⟩⟩⟩⟩⟩
  rw [bnd, if_neg (by omega)]
theorem rnum_p (n : Int) (hn : n < 9223372036854775808) : Pur E 40 [intV n] (str (32 :: nt n)) := by
  refine Pur.enter [] Tryd.func40 rfl Tryd.ntmps40 Tryd.results40 hmE (by kernel_rfl) (by simp) (by simp) fun σ hσ => ?_
  conv => arg 5; cbv
  simp
  refine ⟨fun h => by rw [nt, if_pos h], fun h => ?_⟩
  obtain ⟨m, rfl⟩ : ∃ m : Nat, n = m := ⟨n.toNat, by omega⟩
  refine Pur.call (Text_p 10 (.inr rfl) m (by omega)) ?_
  have hl : (tx 10 m).length ≤ 21 := by rw [tx_len]; exact nd_le _ _ (by omega) (by omega)
  simp [nt, show (tx 10 m).length ≤ 9223372036854775806 by omega]
  rw [if_pos (by omega), if_neg (by omega)]
end Go.Proofs.YtebjdgcnnonjoaaDoor
end

section
set_option linter.unusedVariables false
set_option linter.unusedSimpArgs false
set_option linter.unnecessarySimpa false
namespace Go.Proofs.YtebjdgcnnonjoaaDoor
open Go Go.AW
set_option maxRecDepth 100000
set_option maxHeartbeats 8000000

/-- The store as it was, but for what is known to be new. -/
theorem Fin.cut {σ0 σ σ2 : Store} {a : AV} {Q : AV → Store → Prop} (h2 : σ2.next = σ0.next) (hb : Below σ2 σ) (hB : StoreBel σ2) (ha : Bel σ2.next a) (h : Q a σ2) : AW.Fin σ0.next σ a Q :=
  ⟨a, σ2, ⟨by omega, hb.1, fun i o ho => by rw [hb.2 i (hB i o ho).1]; exact ho, .inr hB⟩, .refl _, .inr ha, h⟩
theorem mustS_c (c : Nat) (σ : Store) : ACalls E 53 [.rp c 0 0 0] σ fun a s => a = .fn (.func 67) [] [.rp σ.next 0 0 0] ∧ s = σ.alloc (.arr 95 0 [.rp c 0 0 0]) := by
  refine ACalls.enterA [] Tryd.func53 rfl Tryd.ntmps53 Tryd.results53 hmE (by kernel_rfl) (by simp) fun hσ => ?_
  conv => arg 5; cbv
  simp
  exact Fin.same (by simp) ⟨rfl, rfl⟩
theorem mustI_c (c : Nat) (σ : Store) : ACalls E 55 [.rp c 0 0 0] σ fun a s => a = .fn (.func 68) [] [.rp σ.next 0 0 0] ∧ s = σ.alloc (.arr 95 0 [.rp c 0 0 0]) := by
  refine ACalls.enterA [] Tryd.func55 rfl Tryd.ntmps55 Tryd.results55 hmE (by kernel_rfl) (by simp) fun hσ => ?_
  conv => arg 5; cbv
  simp
  exact Fin.same (by simp) ⟨rfl, rfl⟩
theorem mustSc_c (x : W) (r ok : Bool) (b c : Nat) (σ : Store) (hb : σ.get b = some (.arr 95 0 [.rp c 0 0 0])) (hc : σ.get c = some (.arr 4 0 [boolV ok])) :
    ACalls E 67 [str x, boolV r, .rp b 0 0 0] σ fun a s => a = str x ∧ s = σ.set c (.arr 4 0 [boolV (ok && r)]) := by
  refine ACalls.enterA [] Tryd.func67 rfl Tryd.ntmps67 Tryd.results67 hmE (by kernel_rfl) (by simp) fun hσ => ?_
  conv => arg 5; cbv
  simp [hb, hc]
  refine ⟨fun h => ?_, fun h => ?_⟩
  · exact Fin.same (by simp) ⟨rfl, by rw [h]; rfl⟩
  · exact Fin.same (by simp) ⟨rfl, by rw [h]; rfl⟩
theorem mustIc_c (x : Int) (r ok : Bool) (b c : Nat) (σ : Store) (hb : σ.get b = some (.arr 95 0 [.rp c 0 0 0])) (hc : σ.get c = some (.arr 4 0 [boolV ok])) :
    ACalls E 68 [intV x, boolV r, .rp b 0 0 0] σ fun a s => a = intV x ∧ s = σ.set c (.arr 4 0 [boolV (ok && r)]) := by
  refine ACalls.enterA [] Tryd.func68 rfl Tryd.ntmps68 Tryd.results68 hmE (by kernel_rfl) (by simp) fun hσ => ?_
  conv => arg 5; cbv
  simp [hb, hc]
  refine ⟨fun h => ?_, fun h => ?_⟩
  · exact Fin.same (by simp) ⟨rfl, by rw [h]; rfl⟩
  · exact Fin.same (by simp) ⟨rfl, by rw [h]; rfl⟩
theorem end_c (p : Nat) (w : List W) (σ : Store) : ACalls E 44 [.rp p 0 0 0, strs w] σ fun a s => a = boolV (decide (w = [])) ∧ s = σ := by
  refine ACalls.enterA [] Tryd.func44 rfl Tryd.ntmps44 Tryd.results44 hmE (by kernel_rfl) (by simp) fun hσ => ?_
  conv => arg 5; cbv
  simp
  refine Fin.same (by simp) ⟨?_, rfl⟩
  cases w <;> simp
  omega
/-- Parts of maps as values. -/
def uV (u : U) : AV := .agg [str u.f, str u.m, intV u.i]
def syV (s : Sy) : AV := .agg [str s.n, intV s.b, intV s.z, intV s.a, intV s.u]
def slV (t : Sl) : AV := .agg [str t.n, intV t.o, intV t.z]
def mpV (m : Mp) : AV := .agg [.ps (m.us.map uV), .ps (m.ss.map syV), .ps (m.ts.map slV)]
/-- A parser. -/
def pvO (i j k : Nat) (m : Mp) (ph : Nat) : AObj := .arr 48 0 [.agg [.lg i (m.us.map uV), .lg j (m.ss.map syV), .lg k (m.ts.map slV), intV ph]]
def isP (s : Store) (p i j k : Nat) (m : Mp) (ph : Nat) : Prop := s.get p = some (pvO i j k m ph) ∧ s.get i = some (.log 74 m.us.length) ∧ s.get j = some (.log 68 m.ss.length) ∧ s.get k = some (.log 70 m.ts.length)
/-- The store with such a parser. -/
def psP (s : Store) (p i j k : Nat) (m : Mp) (ph : Nat) : Store := (((s.set i (.log 74 m.us.length)).set j (.log 68 m.ss.length)).set k (.log 70 m.ts.length)).set p (pvO i j k m ph)
@[simp] theorem psP_next (s : Store) (p i j k : Nat) (m : Mp) (ph : Nat) : (psP s p i j k m ph).next = s.next := rfl
theorem psP_get (s : Store) (p i j k : Nat) (m : Mp) (ph n : Nat) : (psP s p i j k m ph).get n = if n = p then some (pvO i j k m ph) else if n = k then some (.log 70 m.ts.length) else if n = j then some (.log 68 m.ss.length) else if n = i then some (.log 74 m.us.length) else s.get n := rfl
theorem isP.ne {s : Store} {p i j k : Nat} {m : Mp} {ph : Nat} (h : isP s p i j k m ph) : p ≠ i ∧ p ≠ j ∧ p ≠ k ∧ i ≠ j ∧ i ≠ k ∧ j ≠ k := by
  obtain ⟨h1, h2, h3, h4⟩ := h
  refine ⟨?_, ?_, ?_, ?_, ?_, ?_⟩ <;> rintro rfl
  · rw [h1] at h2; simp [pvO] at h2
  · rw [h1] at h3; simp [pvO] at h3
  · rw [h1] at h4; simp [pvO] at h4
  · rw [h2] at h3; simp at h3
  · rw [h2] at h4; simp at h4
  · rw [h3] at h4; simp at h4
theorem isP.ne2 {s : Store} {p i j k : Nat} {m : Mp} {ph : Nat} (h : isP s p i j k m ph) : (¬ p = i ∧ ¬ p = j ∧ ¬ p = k ∧ ¬ i = j ∧ ¬ i = k ∧ ¬ j = k) ∧ ¬ i = p ∧ ¬ j = p ∧ ¬ k = p ∧ ¬ j = i ∧ ¬ k = i ∧ ¬ k = j := by
  obtain ⟨n1, n2, n3, n4, n5, n6⟩ := h.ne
  exact ⟨⟨n1, n2, n3, n4, n5, n6⟩, n1.symm, n2.symm, n3.symm, n4.symm, n5.symm, n6.symm⟩
theorem psP_is {s : Store} {p i j k : Nat} {m : Mp} {ph : Nat} (h : isP s p i j k m ph) (m' : Mp) (ph' : Nat) : isP (psP s p i j k m' ph') p i j k m' ph' := by
  obtain ⟨n1, n2, n3, n4, n5, n6⟩ := h.ne
  simp [isP, psP_get, n1.symm, n2.symm, n3.symm, n4, n5, n6, n4.symm, n5.symm, n6.symm]
theorem psP_same {s : Store} {p i j k : Nat} {m : Mp} {ph : Nat} (h : isP s p i j k m ph) : psP s p i j k m ph = s := by
  obtain ⟨h1, h2, h3, h4⟩ := h
  refine store_ext (fun n => ?_) rfl
  rw [psP_get]
  split
  · subst_vars; exact h1.symm
  · split
    · subst_vars; exact h4.symm
    · split
      · subst_vars; exact h3.symm
      · split
        · subst_vars; exact h2.symm
        · rfl
theorem bel_uV (n : Nat) (u : U) : Bel n (uV u) := by simp [uV]
theorem bel_syV (n : Nat) (u : Sy) : Bel n (syV u) := by simp [syV]
theorem bel_slV (n : Nat) (u : Sl) : Bel n (slV u) := by simp [slV]
theorem psP_bel {s : Store} {p i j k : Nat} {m : Mp} {ph : Nat} (hs : StoreBel s) (h : isP s p i j k m ph) (m' : Mp) (ph' : Nat) : StoreBel (psP s p i j k m' ph') := by
  obtain ⟨h1, h2, h3, h4⟩ := h
  have b1 := (hs _ _ h1).1
  have b2 := (hs _ _ h2).1
  have b3 := (hs _ _ h3).1
  have b4 := (hs _ _ h4).1
  refine StoreBel.set_obj (((hs.set_obj (o := .log _ _) b2 trivial).set_obj (o := .log _ _) b3 trivial).set_obj (o := .log _ _) b4 trivial) b1 ?_
  intro e he x hx
  simp at he
  subst he
  simp [AV.cells] at hx
  have c1 : Bel s.next (.lg i (m'.us.map uV)) := .lg _ _ b2 (by simp; intro u _; exact bel_uV _ u)
  have c2 : Bel s.next (.lg j (m'.ss.map syV)) := .lg _ _ b3 (by simp; intro u _; exact bel_syV _ u)
  have c3 : Bel s.next (.lg k (m'.ts.map slV)) := .lg _ _ b4 (by simp; intro u _; exact bel_slV _ u)
  rcases hx with rfl | rfl | rfl | rfl
  · exact c1
  · exact c2
  · exact c3
  · exact .c _
def nmB (a : W) : Bool := (unV a).2 && decide ((unV a).1 ≠ [])
theorem psP_below {s s' : Store} {p i j k : Nat} {m : Mp} {ph : Nat} (hn : s.next ≤ s'.next) (e1 : s'.get p = some (pvO i j k m ph)) (e2 : s'.get i = some (.log 74 m.us.length)) (e3 : s'.get j = some (.log 68 m.ss.length))
    (e4 : s'.get k = some (.log 70 m.ts.length)) (e5 : ∀ n, n < s.next → n ≠ p → n ≠ i → n ≠ j → n ≠ k → s'.get n = s.get n) : Below (psP s p i j k m ph) s' := by
  refine ⟨hn, fun n h => ?_⟩
  rw [psP_get]
  split
  · subst_vars; exact e1
  · split
    · subst_vars; exact e4
    · split
      · subst_vars; exact e3
      · split
        · subst_vars; exact e2
        · exact e5 n h (by assumption) (by assumption) (by assumption) (by assumption)
theorem name_p' (s : W) (hs : s.length ≤ 100000000) : Pur E 54 [str s] (.tup [str (unV s).1, boolV (nmB s)]) := name_p s hs
theorem unit1_c (a : W) (ha : a.length ≤ 100000) (p i j k : Nat) (m : Mp) (ph : Nat) (hm : m.us.length ≤ 100000) (σ : Store) (hp : isP σ p i j k m ph) :
    ACalls E 41 [.rp p 0 0 0, strs [a]] σ fun r s => r = boolV (nmB a) ∧ s = psP σ p i j k (m.add (.u ⟨(unV a).1, [], 0⟩)) ph := by
  have hN := hp.ne2
  have hP := hp
  refine ACalls.enterA [6000054, 6000056] Tryd.func41 rfl Tryd.ntmps41 Tryd.results41 hmE (by kernel_rfl) (by simp) fun hσ => ?_
  conv => arg 5; cbv
  obtain ⟨h1, h2, h3, h4⟩ := hp
  have b1 := (hσ _ _ h1).1
  have b2 := (hσ _ _ h2).1
  have b3 := (hσ _ _ h3).1
  have b4 := (hσ _ _ h4).1
  have na := name_p' a (by omega)
  have q : ∀ x, x ≤ 2 → ¬ p = σ.next + x ∧ ¬ i = σ.next + x ∧ ¬ j = σ.next + x ∧ ¬ k = σ.next + x ∧ ¬ σ.next + x = p ∧ ¬ σ.next + x = i ∧ ¬ σ.next + x = j ∧ ¬ σ.next + x = k := fun x hx => by omega
  have q0 := q 0 (by omega)
  have q1 := q 1 (by omega)
  have q2 := q 2 (by omega)
  simp only [Nat.add_zero] at q0
  have hfin : ∀ s' : Store, σ.next ≤ s'.next → s'.get p = some (pvO i j k (m.add (.u ⟨(unV a).1, [], 0⟩)) ph) → s'.get i = some (.log 74 (m.us.length + 1)) → s'.get j = σ.get j → s'.get k = σ.get k → (∀ n, n < σ.next → n ≠ p → n ≠ i → n ≠ j → n ≠ k → s'.get n = σ.get n) →
      AW.Fin σ.next s' (boolV (nmB a)) fun r s => r = boolV (nmB a) ∧ s = psP σ p i j k (m.add (.u ⟨(unV a).1, [], 0⟩)) ph := by
    intro s' e0 e1 e2 e3 e4 e5
    exact Fin.cut (σ2 := psP σ p i j k (m.add (.u ⟨(unV a).1, [], 0⟩)) ph) rfl (psP_below e0 e1 (by rw [e2]; simp [Mp.add]) (by rw [e3, h3]; rfl) (by rw [e4, h4]; rfl) e5) (psP_bel hσ hP _ _) (by simp) ⟨rfl, rfl⟩
  simp
  refine ⟨?_, ?_, ?_⟩
  all_goals
    refine callD_of (mustS_c _ _) ?_
    simp
    refine Pur.q na ?_
    simp
    first | refine ⟨Pur.call na (by simp), ?_⟩ | skip
    refine callD_of (mustSc_c (unV a).1 (nmB a) true _ σ.next _ (by simp) (by simp)) ?_
    simp [h1, h2, pvO, q0, q1, q2, hN]
    refine ⟨by omega, by omega, hfin _ (by simp; omega) (by simp [pvO, Mp.add, uV, q0, q1, q2, hN]) (by simp [q0, q1, q2, hN]) (by simp [q0, q1, q2, hN]) (by simp [q0, q1, q2, hN]) fun n hn n1 n2 n3 n4 => ?_⟩
    simp [n1, n2, show ¬ n = σ.next by omega, show ¬ n = σ.next + 1 by omega, show ¬ n = σ.next + 2 by omega]
end Go.Proofs.YtebjdgcnnonjoaaDoor
end

section
set_option linter.unusedVariables false
set_option linter.unusedSimpArgs false
set_option linter.unnecessarySimpa false
namespace Go.Proofs.YtebjdgcnnonjoaaDoor
open Go Go.AW
set_option maxRecDepth 100000
set_option maxHeartbeats 8000000

theorem fin_of {σ : Store} {p i j k : Nat} {m m' : Mp} {ph : Nat} {r : AV} (hσ : StoreBel σ) (hP : isP σ p i j k m ph) (hr : Bel σ.next r) {s' : Store} (e0 : σ.next ≤ s'.next) (e1 : s'.get p = some (pvO i j k m' ph)) (e2 : s'.get i = some (.log 74 m'.us.length)) (e3 : s'.get j = some (.log 68 m'.ss.length))
    (e4 : s'.get k = some (.log 70 m'.ts.length)) (e5 : ∀ n, n < σ.next → n ≠ p → n ≠ i → n ≠ j → n ≠ k → s'.get n = σ.get n) : AW.Fin σ.next s' r fun a s => a = r ∧ s = psP σ p i j k m' ph :=
  Fin.cut (σ2 := psP σ p i j k m' ph) rfl (psP_below e0 e1 e2 e3 e4 e5) (psP_bel hσ hP _ _) hr ⟨rfl, rfl⟩
theorem unit0_c (w : List W) (hw : w.length ≤ 100000) (hl1 : w.length ≠ 1) (hl3 : w.length ≠ 3) (p i j k : Nat) (m : Mp) (ph : Nat) (σ : Store) (hp : isP σ p i j k m ph) :
    ACalls E 41 [.rp p 0 0 0, strs w] σ fun r s => r = boolV false ∧ s = psP σ p i j k m ph := by
  rw [psP_same hp]
  refine ACalls.enterA [6000054, 6000056] Tryd.func41 rfl Tryd.ntmps41 Tryd.results41 hmE (by kernel_rfl) (by simp) fun hσ => ?_
  conv => arg 5; cbv
  simp [show ¬ (w.length : Int) = 1 by omega, show ¬ (w.length : Int) = 3 by omega]
  exact Fin.cut (σ2 := σ) rfl (by refine ⟨by simp, fun n hn => ?_⟩; simp [show ¬ n = σ.next by omega]) hσ (by simp) ⟨rfl, rfl⟩
end Go.Proofs.YtebjdgcnnonjoaaDoor
end
