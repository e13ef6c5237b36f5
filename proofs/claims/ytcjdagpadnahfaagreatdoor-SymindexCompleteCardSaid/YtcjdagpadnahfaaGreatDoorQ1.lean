/- Maps of archives decoded. No condition. -/
import Derived.Test.YtcjdagpadnahfaaGreatDoorP9
import Derived.Test.YtcjdagpadnahfaaGreatDoorGP
set_option linter.unusedVariables false
set_option linter.unusedSimpArgs false
set_option linter.unnecessarySimpa false
namespace Go.Proofs.YtcjdagpadnahfaaGreatDoor
open Go Go.AW
set_option maxRecDepth 100000
set_option maxHeartbeats 8000000

theorem IxB_p (s : W) (hs : s ≠ []) (c : UInt8) : Pur E 95 [bytes s, .c (.int .u8 c.toNat)] (intV (Lib.indexByte s c)) := by
  intro σ Γ w vs hr hvs
  obtain ⟨h1, h2⟩ := hvs
  match vs, h1 with
  | ⟨[x, y]⟩, _ =>
    have e1 := h2 0 _ x rfl rfl
    have e2 := h2 1 _ y rfl rfl
    cases e2
    have hc8 : ((c.toNat : Int).toNat.toUInt8) = c := by simp
    have fin : ∀ (r : Int), r = Lib.indexByte s c → ∀ e w', e = Ending.returned (.int .i64 r) ∧ w' = w → AW.Ends E Γ w (fun a s' => a = intV (Lib.indexByte s c) ∧ s' = σ) e w' := by
      rintro r rfl e w' ⟨rfl, rfl⟩
      obtain ⟨h1, h2⟩ := hr.same_ctx (grown_refl w')
      exact .inl ⟨_, rfl, Γ, _, σ, h1, h2, .c _ rfl, rfl, rfl⟩
    cases e1 with
    | ps _ a cap b o us hc ha hw h1 hh =>
      obtain ⟨e0, _⟩ := ha (by simpa using hs)
      subst e0
      refine (Go.Proofs.Tryz.bytes_IndexByte_at ⟨b, o, none⟩ (s.map byteV).length cap (s.map fun x => (x.toNat : Int)) c.toNat w (by simp) fun i hi => ?_).mono (fin _ (by rw [bytesOf_toInts, hc8]))
      simp at hi
      obtain ⟨y, hy⟩ := get_ex hi
      have hm : (s.map byteV)[i]? = some (byteV y) := by simp [hy]
      have k1 := (hw i _ 0 _ hm rfl).1
      have k2 := hh i _ 0 _ hm rfl
      generalize us i 0 = u at k1 k2
      cases k2
      simp [AV.cells, byteV] at k1
      rw [toInts_get]
      simp [Addr.add, List.getD, hy]
      split
      · rename_i h0; subst h0; exact k1
      · exact k1
/-- The names split off one after the other. -/
theorem names7_c (r : W) (σ : Store) : ACalls E 61 [bytes r] σ fun a s => a = .tup [.fn (.func 94) [] [.rp σ.next 0 0 0], .fn (.func 96) [] [.rp σ.next 0 0 0]] ∧ s = σ.alloc (.arr 23 0 [bytes r]) := by
  refine ACalls.enterA [] Tryz.func61 rfl Tryz.ntmps61 Tryz.results61 hmE (by kernel_rfl) (by simp) fun hσ => ?_
  conv => arg 5; cbv
  simp
  exact Fin.same (by simp) ⟨rfl, rfl⟩
/-- Where the first name ends: nothing if there is none. -/
def nmE (r : W) : Option Nat := if 0 < Lib.indexByte r 0 then some (Lib.indexByte r 0).toNat else none
theorem nmE_lt {r : W} {n : Nat} (h : nmE r = some n) : Lib.indexByte r 0 = n ∧ 1 ≤ n ∧ n < r.length := by
  unfold nmE at h
  split at h
  · cases h
    rename_i h0
    have h1 : Lib.indexByte r 0 = ((Lib.indexByte r 0).toNat : Int) := by omega
    obtain ⟨h2, _⟩ := Lib.indexByte_some h1
    exact ⟨h1, by omega, (List.getElem?_eq_some_iff.1 h2).1⟩
  · cases h
theorem next7_c (r : W) (hne : r ≠ []) (hr : r.length ≤ 1000000000) (c : Nat) (σ : Store) (hc : σ.get c = some (.arr 23 0 [bytes r])) : ACalls E 94 [.rp c 0 0 0] σ fun a s => match nmE r with
    | some n => a = .tup [str (r.take n), boolV true] ∧ s = σ.set c (.arr 23 0 [bytes (r.drop (n + 1))])
    | none => a = .tup [str [], boolV false] ∧ s = σ := by
  have hI := IxB_p r hne 0
  simp at hI
  refine ACalls.enterA [] Tryz.func94 rfl Tryz.ntmps94 Tryz.results94 hmE (by kernel_rfl) (by simp) fun hσ => ?_
  conv => arg 5; cbv
  have b1 := (hσ _ _ hc).1
  simp at hc
  simp [hc]
  refine Pur.call hI ?_
  cases hn : nmE r with
  | none =>
    have : ¬ 0 < Lib.indexByte r 0 := by
      intro h; simp [nmE, h] at hn
    simp [show Lib.indexByte r 0 ≤ 0 by omega]
    exact Fin.same (by simp) ⟨rfl, rfl⟩
  | some n =>
    obtain ⟨h1, h2, h3⟩ := nmE_lt hn
    have hw : IntKind.i64.wrap ((n : Int) + 1) = ((n + 1 : Nat) : Int) := (wrap64_id (by omega) (by omega)).trans (by omega)
    have hbb : ∀ a ∈ List.take n (List.map byteV r), (match a with | AV.c (Value.int IntKind.u8 n) => true | x => false) = true := by
      intro a ha
      obtain ⟨x, _, rfl⟩ := List.mem_map.1 (List.mem_of_mem_take ha)
      rfl
    simp [h1, hc]
    rw [hw]
    simp
    refine ⟨fun h => by omega, fun _ => ⟨by omega, by omega, by omega, Fin.same (by simp) ⟨rfl, rfl⟩⟩⟩
theorem left7_c (r : W) (c : Nat) (σ : Store) (hc : σ.get c = some (.arr 23 0 [bytes r])) : ACalls E 96 [.rp c 0 0 0] σ fun a s => a = intV r.length ∧ s = σ := by
  refine ACalls.enterA [] Tryz.func96 rfl Tryz.ntmps96 Tryz.results96 hmE (by kernel_rfl) (by simp) fun hσ => ?_
  conv => arg 5; cbv
  simp at hc
  simp [hc]
  exact Fin.same (by simp) ⟨rfl, rfl⟩
theorem or_w {x y : Nat} (hx : x < 9223372036854775808) (hy : y < 9223372036854775808) : IntKind.i64.wrap (((((x : Int) % 2 ^ IntKind.i64.bits).toNat ||| ((y : Int) % 2 ^ IntKind.i64.bits).toNat) : Nat) : Int) = ((x ||| y : Nat) : Int) := by
  have hb : IntKind.i64.bits = 64 := rfl
  have e1 : ((x : Int) % 2 ^ IntKind.i64.bits).toNat = x := by rw [hb]; omega
  have e2 : ((y : Int) % 2 ^ IntKind.i64.bits).toNat = y := by rw [hb]; omega
  have h : x ||| y < 2 ^ 63 := Nat.or_lt_two_pow (by omega) (by omega)
  rw [e1, e2]
  exact wrap64_id (by omega) (by omega)
theorem get7_p (b : W) (hb : 4 ≤ b.length) : Pur E 60 [bytes b] (intV (num4 b)) := by
  obtain ⟨b0, h0⟩ := get_ex (l := b) (i := 0) (by omega)
  obtain ⟨b1, h1⟩ := get_ex (l := b) (i := 1) (by omega)
  obtain ⟨b2, h2⟩ := get_ex (l := b) (i := 2) (by omega)
  obtain ⟨b3, h3⟩ := get_ex (l := b) (i := 3) (by omega)
  have t0 := b0.toNat_lt
  have t1 := b1.toNat_lt
  have t2 := b2.toNat_lt
  have t3 := b3.toNat_lt
  have w : ∀ x : UInt8, IntKind.i64.wrap (x.toNat : Int) = x.toNat := fun x => by have := x.toNat_lt; exact wrap64_id (by omega) (by omega)
  have s : ∀ (x : UInt8) (k : Nat), k ≤ 24 → IntKind.i64.wrap ((x.toNat : Int) * 2 ^ min k IntKind.i64.bits) = ((x.toNat * 2 ^ k : Nat) : Int) := fun x k hk => by
    have hb : min k IntKind.i64.bits = k := Nat.min_eq_left (Nat.le_trans hk (by decide))
    have hx := x.toNat_lt
    have hp : x.toNat * 2 ^ k ≤ 256 * 2 ^ 24 := Nat.mul_le_mul (by omega) (Nat.pow_le_pow_right (by omega) hk)
    have e : ((x.toNat : Int) * 2 ^ k) = ((x.toNat * 2 ^ k : Nat) : Int) := by simp
    rw [hb, e]
    exact wrap64_id (by omega) (by omega)
  have q1 : b0.toNat * 2 ^ 24 ||| b1.toNat * 2 ^ 16 < 2 ^ 40 := Nat.or_lt_two_pow (by omega) (by omega)
  have q2 : (b0.toNat * 2 ^ 24 ||| b1.toNat * 2 ^ 16) ||| b2.toNat * 2 ^ 8 < 2 ^ 40 := Nat.or_lt_two_pow q1 (by omega)
  have hg := get4 b0.toNat b1.toNat b2.toNat b3.toNat t1 t2 t3
  refine Pur.enter [] Tryz.func60 rfl Tryz.ntmps60 Tryz.results60 hmE (by kernel_rfl) (by simp) (by simp) fun σ hσ => ?_
  conv => arg 5; cbv
  simp [h0, h1, h2, h3]
  rw [w b0, w b1, w b2, w b3, s b0 24 (by omega), s b1 16 (by omega), s b2 8 (by omega), or_w (by omega) (by omega), or_w (by omega) (by omega), or_w (by omega) (by omega)]
  simp only [num4, List.getD, h0, h1, h2, h3, Option.getD_some]
  rw [← hg]
end Go.Proofs.YtcjdagpadnahfaaGreatDoor
