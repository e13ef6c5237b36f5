/- Headers. No condition. -/
import Derived.Test.YtfonamgmfljhlaaDoorA2
set_option linter.unusedVariables false
set_option linter.unusedSimpArgs false
set_option linter.unnecessarySimpa false
namespace Go.Proofs.YtfonamgmfljhlaaDoor
open Go Go.AW
set_option maxRecDepth 100000
set_option maxHeartbeats 8000000

/-- A header. -/
structure H where
  name : W
  t : Int
  u : Int
  g : Int
  m : Int
  s : Int
def hdrV (h : H) : AV := .agg [str h.name, intV h.t, intV h.u, intV h.g, intV h.m, intV h.s]
attribute [simp] hdrV
/-- May a header's name be this? -/
def fitsN (n : W) : Bool := decide (1 ≤ n.length ∧ n.length ≤ 16) && !hasAny n [10, 0] && !(n.getLast? == some 32)
theorem last_get (n : W) (h : 1 ≤ n.length) : n[n.length - 1]? = n.getLast? := by rw [List.getLast?_eq_getElem?]
theorem u8_eq (b : UInt8) (n : Nat) (h : n < 256) : (b.toNat : Int) = n ↔ b = UInt8.ofNat n := by
  constructor
  · intro e
    apply UInt8.toNat_inj.1
    simp; omega
  · rintro rfl
    simp; omega
theorem fits_p (n : W) (hn : n.length ≤ 1000000) : Pur E 34 [str n] (boolV (fitsN n)) := by
  refine Pur.enter [] Tryd.func34 rfl Tryd.ntmps34 Tryd.results34 hmE (by kernel_rfl) (by simp) (by simp) fun σ hσ => ?_
  conv => arg 5; cbv
  simp
  by_cases h : 1 ≤ n.length ∧ n.length ≤ 16
  · have hc := ContainsAny_p n [10, 0] (by omega) (by simp) (by simp) (by simp)
    obtain ⟨b, hb⟩ := get_ex (l := n) (i := n.length - 1) (by omega)
    have hb2 := last_get n h.1
    rw [hb] at hb2
    have hw : IntKind.i64.wrap ((n.length : Int) - 1) = (n.length : Int) - 1 := wrap64_id (by omega) (by omega)
    have hi : ((n.length : Int) - 1).toNat = n.length - 1 := by omega
    simp [show (1 : Int) ≤ n.length by omega, show (n.length : Int) ≤ 16 by omega]
    refine ⟨⟨?_, fun h => by omega⟩, fun h => by omega⟩
    refine Pur.call hc ?_
    simp [hw, hi, hb]
    have hf : fitsN n = (!hasAny n [10, 0] && !(some b == some 32)) := by rw [fitsN, ← hb2, decide_eq_true h]; rfl
    rw [hf]
    refine ⟨fun h => ?_, fun h => ?_⟩
    · simp [h]
      refine ⟨by omega, by omega, ?_⟩
      rw [Bool.eq_iff_iff]
      simp
      have := u8_eq b 32 (by omega)
      simp at this
      rw [this]
    · simp [h]
  · have hf : fitsN n = false := by simp [fitsN, h]
    simp [hf]
    exact fun a b => by omega
theorem f1_c (h : H) (σ : Store) (n : Nat) (hn : σ.get n = some (.arr 60 0 [hdrV h])) : ACalls E 50 [.rp n 0 0 0] σ fun a s => a = .rp n 0 0 1 ∧ s = σ := by
  refine ACalls.enterA [] Tryd.func50 rfl Tryd.ntmps50 Tryd.results50 hmE (by kernel_rfl) (by simp) fun hσ => ?_
  conv => arg 5; cbv
  simp [hn]
  exact Fin.same (by simp) ⟨rfl, rfl⟩
theorem f2_c (h : H) (σ : Store) (n : Nat) (hn : σ.get n = some (.arr 60 0 [hdrV h])) : ACalls E 51 [.rp n 0 0 0] σ fun a s => a = .rp n 0 0 2 ∧ s = σ := by
  refine ACalls.enterA [] Tryd.func51 rfl Tryd.ntmps51 Tryd.results51 hmE (by kernel_rfl) (by simp) fun hσ => ?_
  conv => arg 5; cbv
  simp [hn]
  exact Fin.same (by simp) ⟨rfl, rfl⟩
theorem f3_c (h : H) (σ : Store) (n : Nat) (hn : σ.get n = some (.arr 60 0 [hdrV h])) : ACalls E 52 [.rp n 0 0 0] σ fun a s => a = .rp n 0 0 3 ∧ s = σ := by
  refine ACalls.enterA [] Tryd.func52 rfl Tryd.ntmps52 Tryd.results52 hmE (by kernel_rfl) (by simp) fun hσ => ?_
  conv => arg 5; cbv
  simp [hn]
  exact Fin.same (by simp) ⟨rfl, rfl⟩
theorem f4_c (h : H) (σ : Store) (n : Nat) (hn : σ.get n = some (.arr 60 0 [hdrV h])) : ACalls E 53 [.rp n 0 0 0] σ fun a s => a = .rp n 0 0 4 ∧ s = σ := by
  refine ACalls.enterA [] Tryd.func53 rfl Tryd.ntmps53 Tryd.results53 hmE (by kernel_rfl) (by simp) fun hσ => ?_
  conv => arg 5; cbv
  simp [hn]
  exact Fin.same (by simp) ⟨rfl, rfl⟩
theorem f5_c (h : H) (σ : Store) (n : Nat) (hn : σ.get n = some (.arr 60 0 [hdrV h])) : ACalls E 54 [.rp n 0 0 0] σ fun a s => a = .rp n 0 0 5 ∧ s = σ := by
  refine ACalls.enterA [] Tryd.func54 rfl Tryd.ntmps54 Tryd.results54 hmE (by kernel_rfl) (by simp) fun hσ => ?_
  conv => arg 5; cbv
  simp [hn]
  exact Fin.same (by simp) ⟨rfl, rfl⟩
def fieldV (w b : Int) (bl : Bool) (k : FuncId) : AV := .agg [intV w, intV b, boolV bl, .fn (.func k) [] []]
attribute [simp] fieldV
theorem fields_p : Pur E 36 [] (.ps [fieldV 12 10 true 50, fieldV 6 10 true 51, fieldV 6 10 true 52, fieldV 8 8 true 53, fieldV 10 10 false 54]) := by
  refine Pur.enter [] Tryd.func36 rfl Tryd.ntmps36 Tryd.results36 hmE (by kernel_rfl) (by simp) (by simp) fun σ hσ => ?_
  conv => arg 5; cbv
  simp
  rfl
/-- Is the field accepted? -/
def fldOk (n b w : Int) (bl : Bool) : Bool := if bl then n == 0 else fmtE n b w == 0
/-- The field. -/
def fldL (n b w : Int) (bl : Bool) : W := if bl then List.replicate w.toNat 32 else fmtL n b w
def H.tab (h : H) : Bool := h.name == [47, 47]
def H.ok (h : H) : Bool := fldOk h.t 10 12 h.tab && fldOk h.u 10 6 h.tab && fldOk h.g 10 6 h.tab && fldOk h.m 8 8 h.tab && fldOk h.s 10 10 false
/-- The name's field. -/
def H.head (h : H) : W := h.name ++ List.replicate (16 - h.name.length) 32
def H.all (h : H) : W := h.head ++ (fldL h.t 10 12 h.tab ++ (fldL h.u 10 6 h.tab ++ (fldL h.g 10 6 h.tab ++ (fldL h.m 8 8 h.tab ++ (fldL h.s 10 10 false ++ [96, 10])))))
def H.parts (h : H) : List W := [fldL h.t 10 12 h.tab, fldL h.u 10 6 h.tab, fldL h.g 10 6 h.tab, fldL h.m 8 8 h.tab, fldL h.s 10 10 false]
def H.oks (h : H) : List Bool := [fldOk h.t 10 12 h.tab, fldOk h.u 10 6 h.tab, fldOk h.g 10 6 h.tab, fldOk h.m 8 8 h.tab, fldOk h.s 10 10 false]
def H.upto (h : H) (i : Nat) : W := h.head ++ (h.parts.take i).flatten
def encE (h : H) : Int := if fitsN h.name = false then 6 else if h.ok then 0 else 9
def encL (h : H) : W := if encE h = 0 then h.all else []
def encV (h : H) : AV := .tup [bytes (encL h), intV (encE h)]
attribute [simp] encV
/-- Small numbers. -/
def H.lim (h : H) : Prop := h.t < 9223372036854775808 ∧ h.u < 9223372036854775808 ∧ h.g < 9223372036854775808 ∧ h.m < 9223372036854775808 ∧ h.s < 9223372036854775808 ∧ h.name.length ≤ 1000000
theorem fmt_zero (b w : Int) (hb : b = 8 ∨ b = 10) (hw : 1 ≤ w ∧ w ≤ 18) : fmtE 0 b w = 0 := by
  have := nd_lt (b := b.toNat) (n := 0) (by omega)
  rw [fmtE, if_neg (by omega), if_neg (by simp [this]; omega)]
theorem fits_len {n : W} (h : fitsN n = true) : 1 ≤ n.length ∧ n.length ≤ 16 := by
  simp [fitsN] at h
  exact h.1.1
theorem H.bad {h : H} (hf : fitsN h.name = true) (hb : false ∈ h.oks) : encE h = 9 ∧ encL h = [] := by
  have : h.ok = false := by
    simp [H.oks] at hb
    unfold H.ok
    rcases hb with e | e | e | e | e <;> simp [e]
  have h1 : encE h = 9 := by simp [encE, hf, this]
  exact ⟨h1, by simp [encL, h1]⟩
theorem H.good {h : H} (hf : fitsN h.name = true) (hb : ¬ false ∈ h.oks) : encE h = 0 ∧ encL h = h.upto 5 ++ [96, 10] := by
  have : h.ok = true := by
    simp [H.oks] at hb
    unfold H.ok
    simp [hb]
  have h1 : encE h = 0 := by simp [encE, hf, this]
  exact ⟨h1, by simp [encL, h1, H.all, H.upto, H.parts]⟩
theorem fmtL_len (n b w : Int) : (fmtL n b w).length ≤ w.toNat := by
  unfold fmtL
  split
  · rename_i h
    have hb : nd b.toNat n.toNat ≤ w.toNat := by
      unfold fmtE at h
      split at h
      · omega
      · split at h
        · omega
        · omega
    rw [List.length_append, tx_len, List.length_replicate]; omega
  · simp
theorem fldL_len (n b w : Int) (bl : Bool) : (fldL n b w bl).length ≤ w.toNat := by
  unfold fldL
  cases bl with
  | true => simp
  | false => simpa using fmtL_len n b w
theorem H.upto_len (h : H) (hn : h.name.length ≤ 16) (i : Nat) : (h.upto i).length ≤ 58 := by
  have h1 : (h.parts.take i).flatten.length ≤ h.parts.flatten.length := by
    have e : h.parts.flatten = (h.parts.take i).flatten ++ (h.parts.drop i).flatten := by rw [← List.flatten_append, List.take_append_drop]
    rw [e, List.length_append]
    omega
  have h2 : h.parts.flatten.length ≤ 42 := by
    simp [H.parts]
    have k1 := fldL_len h.t 10 12 h.tab
    have k2 := fldL_len h.u 10 6 h.tab
    have k3 := fldL_len h.g 10 6 h.tab
    have k4 := fldL_len h.m 8 8 h.tab
    have k5 := fldL_len h.s 10 10 false
    simp at k1 k2 k3 k4 k5
    omega
  unfold H.upto H.head
  rw [List.length_append, List.length_append, List.length_replicate]
  omega
theorem H.step {h : H} {i : Nat} {p : W} {b : Bool} (hp : h.parts[i]? = some p) (hb : h.oks[i]? = some b) : h.upto (i + 1) = h.upto i ++ p ∧ (b = false → false ∈ h.oks) ∧ (b = true → ¬ false ∈ h.oks.take i → ¬ false ∈ h.oks.take (i + 1)) := by
  refine ⟨?_, fun e => by subst e; exact List.mem_of_getElem? hb, fun e hn => ?_⟩
  · unfold H.upto
    rw [List.take_add_one, hp]
    simp
  · subst e
    rw [List.take_add_one, hb]
    simpa using hn
theorem Encode_p (h : H) (hl : h.lim) : Pur E 26 [hdrV h] (encV h) := by
  refine Pur.enter [2000023] Tryd.func26 rfl Tryd.ntmps26 Tryd.results26 hmE (by kernel_rfl) (by simp) (by simp) fun σ hσ => ?_
  conv => arg 5; cbv
  simp
  refine Pur.call (fits_p h.name hl.2.2.2.2.2) ?_
  simp
  refine ⟨fun hf => ?_, fun hf => ?_⟩
  · simp [encE, encL, hf]
  · have hlen := fits_len hf
    have hw : IntKind.i64.wrap (16 - (h.name.length : Int)) = ((16 - h.name.length : Nat) : Int) := (wrap64_id (by omega) (by omega)).trans (by omega)
    simp [hw]
    refine Pur.d (Repeat_p (16 - h.name.length) (by omega)) ?_
    have hsz : h.name.length + (16 - h.name.length) = 16 := by omega
    simp [hsz]
    refine Pur.call fields_p ?_
    simp
    have hup : ∀ i, bytes (h.upto i) = .ps (List.map byteV h.name ++ (List.replicate (16 - h.name.length) (.c (.int .u8 32)) ++ List.map byteV (h.parts.take i).flatten)) := fun i => by simp [H.upto, H.head]
    refine loop_x hmE (by kernel_rfl) (· + 1) 0 (fun i : Nat => [(26, intV i), (4, .lg (σ.next + 1) ((h.upto i).map byteV))]) (fun i : Nat => (σ.alloc (.arr 60 0 [hdrV h])).alloc (.log 5 (h.upto i).length))
      (fun i : Nat => i ≤ 5 ∧ (h.oks.take i).all id = true) (fun i => 5 - i) (by simp) (fun i hi => ⟨by simp, ?_, ?_⟩) ?_ (by simp [H.upto, H.head]) fun i hi => ?_
    · exact (hσ.alloc_arr (by simp)).alloc_log _ _
    · have := bel_lg (m := σ.next + 2) (i := σ.next + 1) (by omega) (h.upto i)
      simpa using this
    · have : (h.upto 0).length = 16 := by simp [H.upto, H.head, hsz]
      rw [this]
      exact Below.refl _
    obtain ⟨hi, hok⟩ := hi
    obtain rfl | rfl | rfl | rfl | rfl | rfl : i = 0 ∨ i = 1 ∨ i = 2 ∨ i = 3 ∨ i = 4 ∨ i = 5 := by omega
    · obtain ⟨e1, e2, e3⟩ := H.step (h := h) (i := 0) (p := fldL h.t 10 12 h.tab) (b := fldOk h.t 10 12 h.tab) rfl rfl
      have hl1 := h.upto_len hlen.2 0
      have hl2 := h.upto_len hlen.2 1
      have e4 : (h.upto 0).length + (fldL h.t 10 12 h.tab).length = (h.upto 1).length := by rw [e1, List.length_append]
      have hok' : ¬ false ∈ h.oks.take 0 := by simpa using hok
      simp
      refine (f1_c h _ σ.next (by simp)).mono ?_
      rintro a s ⟨rfl, rfl⟩
      simp
      refine Pur.call (Format_p h.t 10 12 hl.1) ?_
      simp
      refine ⟨fun ht => ⟨fun hE => ?_, fun hE => ⟨fun hn => ?_, fun hn => ?_⟩⟩, fun ht => ⟨fun hE => ?_, fun hE => ?_⟩⟩
      · have : fldOk h.t 10 12 h.tab = false := by
          by_cases hn : h.t = 0
          · exact absurd (hn ▸ fmt_zero 10 12 (by simp) (by simp)) hE
          · simp [fldOk, H.tab, ht, hn]
        obtain ⟨q1, q2⟩ := H.bad hf (e2 this)
        simp [q1, q2]
      · have : fldOk h.t 10 12 h.tab = false := by simp [fldOk, H.tab, ht, hn]
        obtain ⟨q1, q2⟩ := H.bad hf (e2 this)
        simp [q1, q2]
      · have q3 : fldOk h.t 10 12 h.tab = true := by simp [fldOk, H.tab, ht, hn]
        have q4 : fldL h.t 10 12 h.tab = List.replicate 12 32 := by simp [fldL, H.tab, ht]
        have q5 := e3 q3 hok'
        obtain ⟨R, hR⟩ : ∃ R, R = List.replicate 12 (32 : UInt8) := ⟨_, rfl⟩
        have hrp := Repeat_p 12 (by omega)
        have hRl : R.length = 12 := by rw [hR]; simp
        rw [← hR] at hrp q4
        rw [q4] at e1 e4
        refine Pur.call hrp ?_
        simp
        refine ⟨by omega, by omega, by omega, by rw [e4]; exact Below.refl _, ⟨by rw [e1, List.map_append], ?_⟩, q5⟩
        first | rfl | exact wrap64_id (by omega) (by omega)
      · have : fldOk h.t 10 12 h.tab = false := by simp [fldOk, H.tab, ht, hE]
        obtain ⟨q1, q2⟩ := H.bad hf (e2 this)
        simp [q1, q2]
      · have q3 : fldOk h.t 10 12 h.tab = true := by simp [fldOk, H.tab, ht, hE]
        have q4 : fldL h.t 10 12 h.tab = fmtL h.t 10 12 := by simp [fldL, H.tab, ht]
        have q5 := e3 q3 hok'
        rw [q4] at e1 e4
        refine ⟨by omega, by omega, by rw [e4]; exact Below.refl _, ⟨by rw [e1, List.map_append], ?_⟩, q5⟩
        first | rfl | exact wrap64_id (by omega) (by omega)
    · obtain ⟨e1, e2, e3⟩ := H.step (h := h) (i := 1) (p := fldL h.u 10 6 h.tab) (b := fldOk h.u 10 6 h.tab) rfl rfl
      have hl1 := h.upto_len hlen.2 1
      have hl2 := h.upto_len hlen.2 2
      have e4 : (h.upto 1).length + (fldL h.u 10 6 h.tab).length = (h.upto 2).length := by rw [e1, List.length_append]
      have hok' : ¬ false ∈ h.oks.take 1 := by simpa using hok
      simp
      refine (f2_c h _ σ.next (by simp)).mono ?_
      rintro a s ⟨rfl, rfl⟩
      simp
      refine Pur.call (Format_p h.u 10 6 hl.2.1) ?_
      simp
      refine ⟨fun ht => ⟨fun hE => ?_, fun hE => ⟨fun hn => ?_, fun hn => ?_⟩⟩, fun ht => ⟨fun hE => ?_, fun hE => ?_⟩⟩
      · have : fldOk h.u 10 6 h.tab = false := by
          by_cases hn : h.u = 0
          · exact absurd (hn ▸ fmt_zero 10 6 (by simp) (by simp)) hE
          · simp [fldOk, H.tab, ht, hn]
        obtain ⟨q1, q2⟩ := H.bad hf (e2 this)
        simp [q1, q2]
      · have : fldOk h.u 10 6 h.tab = false := by simp [fldOk, H.tab, ht, hn]
        obtain ⟨q1, q2⟩ := H.bad hf (e2 this)
        simp [q1, q2]
      · have q3 : fldOk h.u 10 6 h.tab = true := by simp [fldOk, H.tab, ht, hn]
        have q4 : fldL h.u 10 6 h.tab = List.replicate 6 32 := by simp [fldL, H.tab, ht]
        have q5 := e3 q3 hok'
        obtain ⟨R, hR⟩ : ∃ R, R = List.replicate 6 (32 : UInt8) := ⟨_, rfl⟩
        have hrp := Repeat_p 6 (by omega)
        have hRl : R.length = 6 := by rw [hR]; simp
        rw [← hR] at hrp q4
        rw [q4] at e1 e4
        refine Pur.call hrp ?_
        simp
        refine ⟨by omega, by omega, by omega, by rw [e4]; exact Below.refl _, ⟨by rw [e1, List.map_append], ?_⟩, q5⟩
        first | rfl | exact wrap64_id (by omega) (by omega)
      · have : fldOk h.u 10 6 h.tab = false := by simp [fldOk, H.tab, ht, hE]
        obtain ⟨q1, q2⟩ := H.bad hf (e2 this)
        simp [q1, q2]
      · have q3 : fldOk h.u 10 6 h.tab = true := by simp [fldOk, H.tab, ht, hE]
        have q4 : fldL h.u 10 6 h.tab = fmtL h.u 10 6 := by simp [fldL, H.tab, ht]
        have q5 := e3 q3 hok'
        rw [q4] at e1 e4
        refine ⟨by omega, by omega, by rw [e4]; exact Below.refl _, ⟨by rw [e1, List.map_append], ?_⟩, q5⟩
        first | rfl | exact wrap64_id (by omega) (by omega)
    · obtain ⟨e1, e2, e3⟩ := H.step (h := h) (i := 2) (p := fldL h.g 10 6 h.tab) (b := fldOk h.g 10 6 h.tab) rfl rfl
      have hl1 := h.upto_len hlen.2 2
      have hl2 := h.upto_len hlen.2 3
      have e4 : (h.upto 2).length + (fldL h.g 10 6 h.tab).length = (h.upto 3).length := by rw [e1, List.length_append]
      have hok' : ¬ false ∈ h.oks.take 2 := by simpa using hok
      simp
      refine (f3_c h _ σ.next (by simp)).mono ?_
      rintro a s ⟨rfl, rfl⟩
      simp
      refine Pur.call (Format_p h.g 10 6 hl.2.2.1) ?_
      simp
      refine ⟨fun ht => ⟨fun hE => ?_, fun hE => ⟨fun hn => ?_, fun hn => ?_⟩⟩, fun ht => ⟨fun hE => ?_, fun hE => ?_⟩⟩
      · have : fldOk h.g 10 6 h.tab = false := by
          by_cases hn : h.g = 0
          · exact absurd (hn ▸ fmt_zero 10 6 (by simp) (by simp)) hE
          · simp [fldOk, H.tab, ht, hn]
        obtain ⟨q1, q2⟩ := H.bad hf (e2 this)
        simp [q1, q2]
      · have : fldOk h.g 10 6 h.tab = false := by simp [fldOk, H.tab, ht, hn]
        obtain ⟨q1, q2⟩ := H.bad hf (e2 this)
        simp [q1, q2]
      · have q3 : fldOk h.g 10 6 h.tab = true := by simp [fldOk, H.tab, ht, hn]
        have q4 : fldL h.g 10 6 h.tab = List.replicate 6 32 := by simp [fldL, H.tab, ht]
        have q5 := e3 q3 hok'
        obtain ⟨R, hR⟩ : ∃ R, R = List.replicate 6 (32 : UInt8) := ⟨_, rfl⟩
        have hrp := Repeat_p 6 (by omega)
        have hRl : R.length = 6 := by rw [hR]; simp
        rw [← hR] at hrp q4
        rw [q4] at e1 e4
        refine Pur.call hrp ?_
        simp
        refine ⟨by omega, by omega, by omega, by rw [e4]; exact Below.refl _, ⟨by rw [e1, List.map_append], ?_⟩, q5⟩
        first | rfl | exact wrap64_id (by omega) (by omega)
      · have : fldOk h.g 10 6 h.tab = false := by simp [fldOk, H.tab, ht, hE]
        obtain ⟨q1, q2⟩ := H.bad hf (e2 this)
        simp [q1, q2]
      · have q3 : fldOk h.g 10 6 h.tab = true := by simp [fldOk, H.tab, ht, hE]
        have q4 : fldL h.g 10 6 h.tab = fmtL h.g 10 6 := by simp [fldL, H.tab, ht]
        have q5 := e3 q3 hok'
        rw [q4] at e1 e4
        refine ⟨by omega, by omega, by rw [e4]; exact Below.refl _, ⟨by rw [e1, List.map_append], ?_⟩, q5⟩
        first | rfl | exact wrap64_id (by omega) (by omega)
    · obtain ⟨e1, e2, e3⟩ := H.step (h := h) (i := 3) (p := fldL h.m 8 8 h.tab) (b := fldOk h.m 8 8 h.tab) rfl rfl
      have hl1 := h.upto_len hlen.2 3
      have hl2 := h.upto_len hlen.2 4
      have e4 : (h.upto 3).length + (fldL h.m 8 8 h.tab).length = (h.upto 4).length := by rw [e1, List.length_append]
      have hok' : ¬ false ∈ h.oks.take 3 := by simpa using hok
      simp
      refine (f4_c h _ σ.next (by simp)).mono ?_
      rintro a s ⟨rfl, rfl⟩
      simp
      refine Pur.call (Format_p h.m 8 8 hl.2.2.2.1) ?_
      simp
      refine ⟨fun ht => ⟨fun hE => ?_, fun hE => ⟨fun hn => ?_, fun hn => ?_⟩⟩, fun ht => ⟨fun hE => ?_, fun hE => ?_⟩⟩
      · have : fldOk h.m 8 8 h.tab = false := by
          by_cases hn : h.m = 0
          · exact absurd (hn ▸ fmt_zero 8 8 (by simp) (by simp)) hE
          · simp [fldOk, H.tab, ht, hn]
        obtain ⟨q1, q2⟩ := H.bad hf (e2 this)
        simp [q1, q2]
      · have : fldOk h.m 8 8 h.tab = false := by simp [fldOk, H.tab, ht, hn]
        obtain ⟨q1, q2⟩ := H.bad hf (e2 this)
        simp [q1, q2]
      · have q3 : fldOk h.m 8 8 h.tab = true := by simp [fldOk, H.tab, ht, hn]
        have q4 : fldL h.m 8 8 h.tab = List.replicate 8 32 := by simp [fldL, H.tab, ht]
        have q5 := e3 q3 hok'
        obtain ⟨R, hR⟩ : ∃ R, R = List.replicate 8 (32 : UInt8) := ⟨_, rfl⟩
        have hrp := Repeat_p 8 (by omega)
        have hRl : R.length = 8 := by rw [hR]; simp
        rw [← hR] at hrp q4
        rw [q4] at e1 e4
        refine Pur.call hrp ?_
        simp
        refine ⟨by omega, by omega, by omega, by rw [e4]; exact Below.refl _, ⟨by rw [e1, List.map_append], ?_⟩, q5⟩
        first | rfl | exact wrap64_id (by omega) (by omega)
      · have : fldOk h.m 8 8 h.tab = false := by simp [fldOk, H.tab, ht, hE]
        obtain ⟨q1, q2⟩ := H.bad hf (e2 this)
        simp [q1, q2]
      · have q3 : fldOk h.m 8 8 h.tab = true := by simp [fldOk, H.tab, ht, hE]
        have q4 : fldL h.m 8 8 h.tab = fmtL h.m 8 8 := by simp [fldL, H.tab, ht]
        have q5 := e3 q3 hok'
        rw [q4] at e1 e4
        refine ⟨by omega, by omega, by rw [e4]; exact Below.refl _, ⟨by rw [e1, List.map_append], ?_⟩, q5⟩
        first | rfl | exact wrap64_id (by omega) (by omega)
    · obtain ⟨e1, e2, e3⟩ := H.step (h := h) (i := 4) (p := fldL h.s 10 10 false) (b := fldOk h.s 10 10 false) rfl rfl
      have hl1 := h.upto_len hlen.2 4
      have hl2 := h.upto_len hlen.2 5
      have e4 : (h.upto 4).length + (fldL h.s 10 10 false).length = (h.upto 5).length := by rw [e1, List.length_append]
      have hok' : ¬ false ∈ h.oks.take 4 := by simpa using hok
      simp
      refine (f5_c h _ σ.next (by simp)).mono ?_
      rintro a s ⟨rfl, rfl⟩
      simp
      refine Pur.call (Format_p h.s 10 10 hl.2.2.2.2.1) ?_
      simp
      refine ⟨fun hE => ?_, fun hE => ?_⟩
      · have : fldOk h.s 10 10 false = false := by simp [fldOk, hE]
        obtain ⟨q1, q2⟩ := H.bad hf (e2 this)
        simp [q1, q2]
      · have q3 : fldOk h.s 10 10 false = true := by simp [fldOk, hE]
        have q4 : fldL h.s 10 10 false = fmtL h.s 10 10 := by simp [fldL]
        have q5 := e3 q3 hok'
        rw [q4] at e1 e4
        refine ⟨by omega, by omega, by rw [e4]; exact Below.refl _, ⟨by rw [e1, List.map_append], ?_⟩, q5⟩
        first | rfl | exact wrap64_id (by omega) (by omega)
    · obtain ⟨q1, q2⟩ := H.good hf (by simpa [H.oks] using hok)
      have hl1 := h.upto_len hlen.2 5
      simp [q1, q2]
      omega
theorem Fits_p (h : H) (hl : h.lim) : Pur E 23 [hdrV h] (intV (encE h)) := by
  refine Pur.enter [] Tryd.func23 rfl Tryd.ntmps23 Tryd.results23 hmE (by kernel_rfl) (by simp) (by simp) fun σ hσ => ?_
  conv => arg 5; cbv
  simp
  refine Pur.call (Encode_p h hl) ?_
  simp
end Go.Proofs.YtfonamgmfljhlaaDoor
