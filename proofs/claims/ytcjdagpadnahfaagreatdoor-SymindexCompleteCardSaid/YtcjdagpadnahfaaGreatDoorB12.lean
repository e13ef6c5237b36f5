/- Objects encoded by the reference; the fixed results. No condition. -/
import Derived.Test.YtcjdagpadnahfaaGreatDoorB11
set_option linter.unusedVariables false
set_option linter.unusedSimpArgs false
set_option linter.unnecessarySimpa false
namespace Go.Proofs.YtcjdagpadnahfaaGreatDoor
open Go Go.AW
set_option maxRecDepth 100000
set_option maxHeartbeats 8000000

def okAt (l : List Sm) (k : Nat) : Bool := match l[k]? with
  | some s => okS s && !hasS (l.take k) s.name
  | none => true
def validO (l : List Sm) : Bool := (List.range l.length).all (okAt l) && decide (l.length ≤ 65536)
theorem Valid6_p (l : List Sm) (b : W) (hl : l.length ≤ 100000) : Pur E 62 [.agg [symsV l, bytes b]] (boolV (validO l)) := by
  refine Pur.enter [] Tryz.func62 rfl Tryz.ntmps62 Tryz.results62 hmE (by kernel_rfl) (by simp) (by simp) fun σ hσ => ?_
  conv => arg 5; cbv
  simp
  refine loop_n hmE (by kernel_rfl) l.length (fun i => [(3, intV i)]) (fun i => i ≤ l.length ∧ ∀ k, k < i → okAt l k = true) (by simp) (hσ.alloc_arr (by simp)) (by simp) (by simp) (by simp) fun i ⟨hi, he⟩ => ?_
  by_cases hil : i < l.length
  · obtain ⟨s, hs⟩ := get_ex hil
    have hli : l[i] = s := (List.getElem?_eq_some_iff.1 hs).2
    have h1 := Sym_p s
    have h2 := has_p (l.take i) s.name (by simp; omega)
    have hok : okAt l i = (okS s && !hasS (l.take i) s.name) := by rw [okAt, hs]
    have hfalse : okAt l i = false → validO l = false := fun h => by
      have : (List.range l.length).all (okAt l) = false := by
        rw [List.all_eq_false]; exact ⟨i, List.mem_range.2 hil, by simp [h]⟩
      rw [validO, this]; rfl
    simp at h1 h2
    simp [-thenK_normal, hil, hs, hli]
    repeat (simp only [thenK_normal]; simp [-thenK_normal, hil, hs, hli])
    refine Pur.d h1 ?_
    cases hv : okS s with
    | false =>
      rw [hv] at hok
      repeat (simp [-thenK_normal, hil, hs, hli]; try simp only [thenK_normal])
      simp [hfalse (by simpa using hok)]
    | true =>
      rw [hv] at hok
      repeat (simp [-thenK_normal, hil, hs, hli, hi]; try simp only [thenK_normal])
      refine Pur.d h2 ?_
      cases hh : hasS (l.take i) s.name with
      | true =>
        rw [hh] at hok
        repeat (simp [-thenK_normal, hil, hs, hli]; try simp only [thenK_normal])
        simp [hfalse (by simpa using hok)]
      | false =>
        rw [hh] at hok
        repeat (simp [-thenK_normal, hil, hs, hli]; try simp only [thenK_normal])
        refine ⟨wrap_succ hil (by omega), ⟨by omega, fun k hk => ?_⟩, by omega⟩
        rcases Nat.lt_succ_iff_lt_or_eq.1 hk with hk | rfl
        · exact he k hk
        · simpa using hok
  · obtain rfl : i = l.length := by omega
    have : (List.range l.length).all (okAt l) = true := by
      rw [List.all_eq_true]; intro k hk; exact he k (List.mem_range.1 hk)
    simp [-thenK_normal]
    repeat (simp only [thenK_normal]; simp [-thenK_normal])
    simp [validO, this]
    omega
def encS (s : Sm) : W := [UInt8.ofNat (s.bind % 256).toNat] ++ put4 s.size ++ put4 s.align ++ [UInt8.ofNat ((s.name.length : Int) % 256).toNat] ++ s.name
def encSs (l : List Sm) : W := l.flatMap encS
def encO (l : List Sm) (b : W) : W := if validO l then [79, 66, 74, 49] ++ put4 l.length ++ encSs l ++ b else []
def encI (l : List Sm) : Int := if validO l then 0 else 12
def eO (l : List Sm) (i : Nat) : W := [79, 66, 74, 49] ++ put4 l.length ++ encSs (l.take i)
theorem eO_snoc {l : List Sm} {i : Nat} {s : Sm} (h : l[i]? = some s) : eO l (i + 1) = eO l i ++ encS s := by
  rw [eO, List.take_add_one, h]; simp [eO, encSs]
theorem okS_size {s : Sm} (h : okS s = true) : s.name.length ≤ 255 ∧ 0 ≤ s.size ∧ s.size ≤ 4294967295 ∧ 0 ≤ s.align ∧ s.align ≤ 65536 ∧ 1 ≤ s.bind ∧ s.bind ≤ 5 := by
  simp only [okS, Bool.and_eq_true, decide_eq_true_eq] at h
  obtain ⟨⟨⟨⟨h1, h2⟩, _⟩, h3, h4⟩, h5⟩ := h
  simp only [okB, Bool.or_eq_true, Bool.and_eq_true, decide_eq_true_eq] at h5
  rcases h5 with (⟨h6, h7⟩ | ⟨h6, h7⟩) | ⟨h6, h7, h8⟩
  · refine ⟨h2, h3, h4, by omega, by omega, by omega, by omega⟩
  · have := powOk_range h7
    exact ⟨h2, h3, h4, by omega, by omega, by omega, by omega⟩
  · exact ⟨h2, h3, h4, by omega, by omega, by omega, by omega⟩
theorem eO_len {l : List Sm} (h : ∀ s ∈ l, okS s = true) (i : Nat) : (eO l i).length ≤ 8 + 300 * l.length := by
  have key : ∀ l : List Sm, (∀ s ∈ l, okS s = true) → (encSs l).length ≤ 300 * l.length := by
    intro l h
    induction l with
    | nil => simp [encSs]
    | cons s l ih =>
      have h1 := (okS_size (h s (by simp))).1
      have h2 := ih fun s hs => h s (by simp [hs])
      simp [encSs, encS] at h2 ⊢
      omega
  have h1 := key (l.take i) fun s hs => h s (List.mem_of_mem_take hs)
  simp [eO] at h1 ⊢
  omega
theorem valid_all {l : List Sm} (h : validO l = true) : (∀ s ∈ l, okS s = true) ∧ l.length ≤ 65536 := by
  simp only [validO, Bool.and_eq_true, decide_eq_true_eq, List.all_eq_true, List.mem_range] at h
  refine ⟨fun s hs => ?_, h.2⟩
  obtain ⟨k, hk⟩ := List.getElem?_of_mem hs
  have := h.1 k (List.getElem?_eq_some_iff.1 hk).1
  rw [okAt, hk] at this
  simp only [Bool.and_eq_true] at this
  exact this.1
theorem Encode6_p (l : List Sm) (b : W) (hl : l.length ≤ 100000) (hb : b.length ≤ 100000000) : Pur E 31 [.agg [symsV l, bytes b]] (.tup [bytes (encO l b), intV (encI l)]) := by
  have hV := Valid6_p l b hl
  simp at hV
  refine Pur.enter [2000010, 2000011] Tryz.func31 rfl Tryz.ntmps31 Tryz.results31 hmE (by kernel_rfl) (by simp) (by simp) fun σ hσ => ?_
  conv => arg 5; cbv
  simp
  refine Pur.call hV ?_
  cases hv : validO l with
  | false => simp [encO, encI, hv]
  | true =>
    obtain ⟨ho, hl2⟩ := valid_all hv
    have hW := Word_p l.length (by omega) (by omega)
    simp at hW
    simp
    first | refine Pur.call hW ?_ | refine Pur.d hW ?_
    simp
    have e0 : eO l 0 = [79, 66, 74, 49] ++ put4 l.length := by simp [eO, encSs]
    refine loop_x hmE (by kernel_rfl) (· + 1) 0 (fun i : Nat => [(5, intV i), (4, .lg (σ.next + 1) ((eO l i).map byteV))]) (fun i : Nat => (σ.alloc (.arr 71 0 [.agg [.ps (l.map symV), .ps (b.map byteV)]])).alloc (.log 5 (eO l i).length)) (fun i : Nat => i ≤ l.length) (fun i => l.length - i) (by simp) (fun i hi => ⟨by simp, StoreBel.alloc_log (StoreBel.alloc_arr hσ (by simp)) _ _, by simp⟩) (by simp [e0]) (by simp [e0]) fun i hi => ?_
    have hel := eO_len ho i
    by_cases hil : i < l.length
    · obtain ⟨s, hs⟩ := get_ex hil
      have hli : l[i] = s := (List.getElem?_eq_some_iff.1 hs).2
      have hsn := eO_snoc hs
      obtain ⟨q1, q2, q3, q4, q5, q6, q7⟩ := okS_size (ho s (List.mem_of_getElem? hs))
      have w1 := Word_p s.size (by omega) (by omega)
      have w2 := Word_p s.align (by omega) (by omega)
      simp at w1 w2
      simp [hil, hs, hli]
      have ll : (eO l i).length ≤ 100000000 := by omega
      refine ⟨by omega, by omega, ?_⟩
      first | refine Pur.call w1 ?_ | refine Pur.d w1 ?_
      simp
      refine ⟨by omega, by omega, ?_⟩
      first | refine Pur.call w2 ?_ | refine Pur.d w2 ?_
      simp
      have el : (eO l (i + 1)).length = (eO l i).length + 10 + s.name.length := by rw [hsn]; simp [encS]; omega
      refine ⟨by omega, by omega, by omega, by omega, by omega, by omega, by rw [el]; exact .refl _, ⟨?_, wrap_succ hil (by omega)⟩, hil, by omega⟩
      rw [hsn, u8_is _ (by omega), u8_is _ (by omega)]
      simp only [encS, List.map_append, List.map_cons, List.map_nil, List.append_assoc, List.cons_append, List.nil_append]
    · obtain rfl : i = l.length := by omega
      simp
      have e2 : encO l b = eO l l.length ++ b := by rw [encO, if_pos hv, eO, List.take_length]
      refine ⟨by omega, by omega, ?_, by rw [encI, if_pos hv]⟩
      rw [e2, List.map_append]

def awL : List Sm := [⟨[102], 1, 0, 0⟩, ⟨[103], 3, 0, 1⟩, ⟨[104], 2, 0, 0⟩]
def awO : W := [79, 66, 74, 49, 0, 0, 0, 3, 1, 0, 0, 0, 0, 0, 0, 0, 0, 1, 102, 3, 0, 0, 0, 0, 0, 0, 0, 1, 1, 103, 2, 0, 0, 0, 0, 0, 0, 0, 0, 1, 104]
theorem awO_is : encO awL [] = awO ∧ encI awL = 0 := by decide +kernel
theorem awO_defs : defsO awO = [[102], [104]] := by decide +kernel
def awM : List M := [⟨[120], 0, 0, 0, 0, [116, 101, 120, 116]⟩, ⟨[97, 46, 111], 0, 0, 0, 0, awO⟩]
theorem awM_defs : nmsD awM = [[102], [104]] ∧ nmsD [] = [] ∧ nmsD [⟨[], 0, 0, 0, 0, []⟩] = [] ∧ defsO [116, 101, 120, 116] = [] := by decide +kernel
theorem awM_fits : (fitsI awM).2 = 0 ∧ (fitsI []).2 = 0 ∧ (fitsI [⟨[], 0, 0, 0, 0, []⟩]).2 = 6 := by decide +kernel
theorem awM_idx : idx awM = [⟨[102], 148⟩, ⟨[104], 148⟩] := by decide +kernel
theorem aw_nil : cmpL [] = magic := by decide +kernel
theorem aw_at : atI awM 148 = some 1 ∧ atI awM 147 = none := by decide +kernel
end Go.Proofs.YtcjdagpadnahfaaGreatDoor
