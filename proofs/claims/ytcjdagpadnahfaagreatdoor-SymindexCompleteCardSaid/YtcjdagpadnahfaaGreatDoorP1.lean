/- Fields read, and the library's functions that parsing reaches. No condition. -/
import Derived.Test.YtcjdagpadnahfaaGreatDoorR3
import Derived.Test.YtcjdagpadnahfaaGreatDoorLibB
import Derived.Test.YtcjdagpadnahfaaGreatDoorAw29
set_option linter.unusedVariables false
set_option linter.unusedSimpArgs false
set_option linter.unnecessarySimpa false
namespace Go.Proofs.YtcjdagpadnahfaaGreatDoor
open Go Go.AW
set_option maxRecDepth 100000
set_option maxHeartbeats 8000000

/-! ### The library -/
/-- A library's contract with an answer of any shape. -/
theorem Pur.libR {E : Env} {k : FuncId} {r : AV} (cs : List Value) (h : ∀ Γ σ w, R E Γ σ w → Calls E.P k cs.toArray w fun e w' => ∃ v, e = .returned v ∧ w.grownBy w' none ∧ VR Γ w' r v) : Pur E k (cs.map AV.c) r := by
  intro σ Γ w vs hr hvs
  have hvs := vrs_c hvs
  have : vs = cs.toArray := by rw [← hvs]
  subst this
  refine (h Γ σ w hr).mono ?_
  rintro e w' ⟨v, rfl, hg, hv⟩
  obtain ⟨h1, h2⟩ := hr.same_ctx hg
  exact .inl ⟨v, rfl, Γ, r, σ, h1, h2, hv, rfl, rfl⟩
theorem vr_pair (Γ : Ctx) (w : World) {a b : AV} {u v : Value} (h1 : VR Γ w a u) (h2 : VR Γ w b v) : VR Γ w (.tup [a, b]) (.tuple #[u, v]) := by
  refine .tup _ _ rfl ?_
  intro j a x ha hx
  match j, ha, hx with
  | 0, ha, hx => simp at ha hx; subst ha; subst hx; exact h1
  | 1, ha, hx => simp at ha hx; subst ha; subst hx; exact h2
/-- The text before a suffix of one byte. -/
def cutL (s : W) (c : UInt8) : W := if s.getLast? = some c then s.dropLast else s
theorem suffix_one (s : W) (c : UInt8) : Lib.hasSuffix s [c] = decide (s.getLast? = some c) := by
  rw [Bool.eq_iff_iff]
  simp only [Lib.hasSuffix, List.isSuffixOf_iff_suffix, decide_eq_true_eq]
  constructor
  · rintro ⟨t, rfl⟩; simp
  · intro h
    obtain ⟨ys, rfl⟩ := List.getLast?_eq_some_iff.1 h
    exact ⟨ys, rfl⟩
theorem CutSuffix_p (s : W) (c : UInt8) (hs : s.length ≤ 1000000000) : Pur E 116 [str s, str [c]] (.tup [str (cutL s c), boolV (decide (s.getLast? = some c))]) := by
  refine Pur.libR (E := E) [.string (bs s), .string (bs [c])] fun Γ σ w hr => (Go.Proofs.Tryz.strings_CutSuffix (bs s) (bs [c]) w (by simp; omega)).mono ?_
  rintro e w' ⟨rfl, rfl⟩
  refine ⟨_, rfl, grown_refl _, vr_pair _ _ ?_ ?_⟩
  · have : (⟨(Lib.trimSuffix (bs s).data.toList (bs [c]).data.toList).toArray⟩ : ByteArray) = bs (cutL s c) := by
      show (⟨(Lib.trimSuffix s [c]).toArray⟩ : ByteArray) = ⟨(cutL s c).toArray⟩
      rw [Lib.trimSuffix, suffix_one, cutL]
      by_cases h : s.getLast? = some c
      · simp [h, List.dropLast_eq_take]
      · simp [h]
    rw [this]
    exact .c _ rfl
  · have : Lib.hasSuffix (bs s).data.toList (bs [c]).data.toList = decide (s.getLast? = some c) := suffix_one s c
    rw [this]
    exact .c _ rfl
theorem prefix_one (s : W) (c : UInt8) : Lib.hasPrefix s [c] = decide (s.head? = some c) := by
  cases s with
  | nil => simp [Lib.hasPrefix]
  | cons a s =>
    rw [Bool.eq_iff_iff]
    simp [Lib.hasPrefix, List.isPrefixOf]
    exact eq_comm
theorem CutPrefix_p (s : W) (c : UInt8) : Pur E 118 [str s, str [c]] (.tup [str (if s.head? = some c then s.tail else s), boolV (decide (s.head? = some c))]) := by
  refine Pur.libR (E := E) [.string (bs s), .string (bs [c])] fun Γ σ w hr => (Go.Proofs.Tryz.strings_CutPrefix (bs s) (bs [c]) w).mono ?_
  rintro e w' ⟨rfl, rfl⟩
  refine ⟨_, rfl, grown_refl _, vr_pair _ _ ?_ ?_⟩
  · have : (⟨(Lib.trimPrefix (bs s).data.toList (bs [c]).data.toList).toArray⟩ : ByteArray) = bs (if s.head? = some c then s.tail else s) := by
      show (⟨(Lib.trimPrefix s [c]).toArray⟩ : ByteArray) = ⟨(if s.head? = some c then s.tail else s).toArray⟩
      rw [Lib.trimPrefix, prefix_one]
      by_cases h : s.head? = some c
      · simp [h]
      · simp [h]
    rw [this]
    exact .c _ rfl
  · have : Lib.hasPrefix (bs s).data.toList (bs [c]).data.toList = decide (s.head? = some c) := prefix_one s c
    rw [this]
    exact .c _ rfl
theorem HasPrefix_p (s p : W) : Pur E 84 [str s, str p] (boolV (decide (s.take p.length = p))) := by
  refine Pur.lib (E := E) [.string (bs s), .string (bs p)] rfl fun Γ σ w hr => (Go.Proofs.Tryz.strings_HasPrefix (bs s) (bs p) w).mono ?_
  rintro e w' ⟨rfl, rfl⟩
  refine ⟨?_, grown_refl _⟩
  have : Lib.hasPrefix (bs s).data.toList (bs p).data.toList = decide (s.take p.length = p) := by
    show Lib.hasPrefix s p = _
    rw [Bool.eq_iff_iff]
    simp only [Lib.hasPrefix, List.isPrefixOf_iff_prefix, decide_eq_true_eq]
    rw [List.prefix_iff_eq_take]
    exact eq_comm
  rw [this]
theorem ContC_p (s : W) (c : UInt8) : Pur E 97 [str s, str [c]] (boolV (s.contains c)) := by
  refine Pur.lib (E := E) [.string (bs s), .string (bs [c])] rfl fun Γ σ w hr => (Go.Proofs.Tryz.strings_Contains_one (bs s) c w).mono ?_
  rintro e w' ⟨rfl, rfl⟩
  refine ⟨?_, grown_refl _⟩
  rw [bs_data]
  congr 2
  rw [Bool.eq_iff_iff]
  simp [byte_in]
theorem TrimRight_p (s : W) (hs : s.length ≤ 1000000000) : Pur E 139 [str s, str [32]] (str (rt s)) := by
  refine Pur.lib (E := E) [.string (bs s), .string (bs [32])] rfl fun Γ σ w hr => (Go.Proofs.Tryz.strings_TrimRight_one (bs s) 32 (by decide) w (by simp; omega)).mono ?_
  rintro e w' ⟨rfl, rfl⟩
  exact ⟨rfl, grown_refl _⟩
theorem cloneB_p (b : W) (hb : b.length ≤ 1000000000) : Pur E 106 [bytes b] (bytes b) := by
  refine Pur.enter [] Tryz.func106 rfl Tryz.ntmps106 Tryz.results106 hmE (by kernel_rfl) (by simp) (fun _ => bel_bytes _ _) fun σ hσ => ?_
  conv => arg 5; cbv
  cases b with
  | nil => simp [aNilEq]
  | cons x b =>
    simp at hb
    simp [aNilEq]
    omega
/-- The program's variables, with the one that bounds a library's search. -/
noncomputable def GM (m : Int) : Nat → Option (List AV) := fun g => if g = 0 then some [.c (.int .i64 m)] else E.G g
noncomputable def EM (m : Int) : Env := E.gl (GM m)
@[simp] theorem EM_P (m : Int) : (EM m).P = Tryz.prog := rfl
theorem gm_le (m : Int) : ∀ g cs, E.G g = some cs → GM m g = some cs := by
  intro g cs h
  unfold GM
  split
  · rename_i h0
    subst h0
    simp [E] at h
  · exact h
theorem lift (m : Int) {k : FuncId} {args : List AV} {r : AV} (h : Pur E k args r) : Pur (EM m) k args r := Pur.gl (gm_le m) h
theorem EM_pan (m : Int) : ∀ a s, ¬ (EM m).pan a s := fun _ _ h => h
theorem toInts_get (s : W) (i : Nat) : (s.map fun x => (x.toNat : Int)).getD i 0 = ((s.getD i 0).toNat : Int) := by
  by_cases h : i < s.length <;> simp [List.getD, h]
theorem bytesOf_toInts (s : W) : Lib.bytesOf (s.map fun x => (x.toNat : Int)) = s := by
  rw [Lib.bytesOf, List.map_map]
  conv => rhs; rw [← List.map_id s]
  refine List.map_congr_left fun x _ => ?_
  simp
theorem BIndex_p (m : Int) (s t : W) (hs : s ≠ []) (ht : t ≠ []) (hsl : s.length ≤ 4000000000) (htl : t.length ≤ 4000000000) : Pur (EM m) 142 [bytes s, bytes t] (intV (Lib.index s t)) := by
  refine Pur.lib2 (E := EM m) hs ht rfl fun Γ σ w a1 a2 c1 c2 hr hc k1 k2 => ?_
  have hg := hr.glob 0 [.c (.int .i64 m)] (by simp [EM, GM])
  obtain ⟨g1, _, _⟩ := hg
  have hm : w.cell? ⟨0, 0, none⟩ = some (.int .i64 m) := by
    obtain ⟨b, o, e, _, _, hc⟩ := g1.pp_cells
    cases e
    obtain ⟨u, u1, u2, u3⟩ := hc 0 (.c (.int .i64 m)) rfl
    cases u3
    exact u1
  refine (Go.Proofs.Tryz.bytes_Index_at a1 a2 s.length c1 t.length c2 (s.map fun x => (x.toNat : Int)) (t.map fun x => (x.toNat : Int)) m w (by simp) (by simp) (fun x hx => ?_) (fun x hx => ?_) (fun i hi => ?_) (fun i hi => ?_) hc (by omega) (by omega) hm).mono ?_
  · obtain ⟨y, _, rfl⟩ := List.mem_map.1 hx
    have := y.toNat_lt
    omega
  · obtain ⟨y, _, rfl⟩ := List.mem_map.1 hx
    have := y.toNat_lt
    omega
  · rw [toInts_get]; exact k1 i hi
  · rw [toInts_get]; exact k2 i hi
  · rintro e w' ⟨rfl, q, rfl⟩
    refine ⟨by rw [bytesOf_toInts, bytesOf_toInts], rfl, rfl, rfl, Nat.le_refl _, fun _ _ _ => rfl⟩
/-! ### Fields -/
theorem Blank_p (l : W) (hl : l.length ≤ 1000000000) : Pur E 140 [bytes l] (boolV (l.all (· == 32))) := by
  refine Pur.enter [] Tryz.func140 rfl Tryz.ntmps140 Tryz.results140 hmE (by kernel_rfl) (by simp) (by simp) fun σ hσ => ?_
  conv => arg 5; cbv
  simp
  refine loop_n hmE (by kernel_rfl) l.length (fun i => [(7, intV i)]) (fun i => i ≤ l.length ∧ ∀ y ∈ l.take i, y = 32) (by simp) hσ (by simp) (by simp) (by simp) fun i ⟨hi, hall⟩ => ?_
  simp
  refine ⟨fun h => ?_, fun h => by rwa [List.take_of_length_le h] at hall⟩
  obtain ⟨a, ha⟩ := get_ex h
  refine ⟨a, ha, fun hne => ⟨a, List.mem_of_getElem? ha, fun e => hne (by rw [e]; rfl)⟩, fun e => ⟨wrap_succ h (by omega), ⟨h, ?_⟩, by omega⟩⟩
  intro y hy
  rw [List.take_add_one, ha] at hy
  simp at hy
  rcases hy with hy | rfl
  · exact hall y hy
  · exact UInt8.toNat_inj.1 (by show _ = 32; omega)
end Go.Proofs.YtcjdagpadnahfaaGreatDoor
