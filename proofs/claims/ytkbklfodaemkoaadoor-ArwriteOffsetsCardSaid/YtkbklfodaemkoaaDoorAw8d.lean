/- Operations on maps, interfaces and iterators; panics. No condition. -/
import Derived.Test.YtkbklfodaemkoaaDoorAw8c
import Derived.Maps.RangeRun
import Derived.MapKept
set_option linter.unusedVariables false
set_option linter.unusedSimpArgs false
set_option linter.unnecessarySimpa false
namespace Go.AW
open Go

def VRs (Γ : Ctx) (w : World) (as : List AV) (vs : List Value) : Prop := as.length = vs.length ∧ ∀ (j : Nat) (a : AV) (v : Value), as[j]? = some a → vs[j]? = some v → VR Γ w a v

/-- The function behind a method of a type. -/
def methodOf (P : Program) (t : TypeId) (m : String) : Option FuncId :=
  match P.info? t with
  | some i => (match i.methods.find? (·.name == m) with
    | some x => if x.path.isEmpty then (match x.func with
      | some (f, true) => (match P.underlying t with
        | some (.pointer _) => some f
        | _ => none)
      | some (f, false) => (match P.underlying t with
        | some (.pointer _) => none
        | some _ => some f
        | none => none)
      | none => none) else none
    | none => none)
  | none => none

theorem run_methodOf {P : Program} {t : TypeId} {m : String} {k : FuncId} (h : methodOf P t m = some k) (u : Value) (w : World) : ∀ n, (method (n + 1) t u m).run P w = .ok (k, u) w := by
  intro n
  unfold methodOf at h
  split at h
  · rename_i i hi
    split at h
    · rename_i x hx
      split at h
      · rename_i hp
        have hp' : x.path = #[] := by simpa using hp
        split at h
        · rename_i f hf
          split at h
          · rename_i e hu
            cases h
            simp [method, typeInfo, hi, hx, hp', follow, hf, receiverAt, run_underlying hu, Place.get]
          · cases h
        · rename_i f hf
          split at h
          · cases h
          · rename_i d hd hu
            cases h
            cases d <;> first | exact absurd rfl (hd _) | (simp [method, typeInfo, hi, hx, hp', follow, hf, receiverAt, run_underlying hu, Place.get]; done)
          · cases h
        · cases h
      · cases h
    · cases h
  · cases h

/-! ### Maps, iterators, assertions -/
def TK.isMap : TK → Bool
  | .map .. => true
  | _ => false
/-- A key that is compared as it stands. -/
def keyOk : TK → Value → Prop
  | .bool, .bool _ => True
  | .int k, .int k' _ => k' = k
  | .str, .string _ => True
  | _, _ => False
open Classical in
/-- The first entry with this key: its index and its value. -/
noncomputable def aFind (k : Value) : List (Value × AV) → Option (Nat × AV)
  | [] => none
  | e :: es => if e.1 = k then some (0, e.2) else (aFind k es).map fun p => (p.1 + 1, p.2)
theorem isKey_of {P : Program} {t : TypeId} {k : Value} (h : keyOk (tk P t) k) : ∃ d, P.underlying t = some d ∧ ∀ k', keyOk (tk P t) k' → MapKept.IsKey d k' := by
  unfold tk at h ⊢
  cases hu : P.underlying t with
  | none => simp [hu, keyOk] at h
  | some d =>
    refine ⟨d, rfl, fun k' hk' => ?_⟩
    cases d <;> cases k' <;> simp_all [keyOk, MapKept.IsKey]
theorem aFind_get {k : Value} : ∀ {ents : List (Value × AV)} {j : Nat} {a : AV}, aFind k ents = some (j, a) → ents[j]? = some (k, a)
  | [], j, a, h => by simp [aFind] at h
  | e :: es, j, a, h => by
    simp only [aFind] at h
    split at h
    · rename_i he
      cases h
      obtain ⟨e1, e2⟩ := e
      simp at he
      simp [he]
    · cases hf : aFind k es with
      | none => simp [hf] at h
      | some p =>
        obtain ⟨j', a'⟩ := p
        simp [hf] at h
        obtain ⟨rfl, rfl⟩ := h
        simpa using aFind_get hf
theorem findNow_aFind {d : TypeDesc} {k : Value} (hk : MapKept.IsKey d k) : ∀ (l : List MapEntry) (ents : List (Value × AV)) (i : Nat), l.map (·.key) = ents.map (·.1) → (∀ x ∈ ents, MapKept.IsKey d x.1) →
    Instr.findNow d k l i = some ((aFind k ents).bind fun p => (l[p.1]?).map fun e => (i + p.1, e.val))
  | [], [], i, _, _ => rfl
  | [], _ :: _, _, h, _ => by simp at h
  | _ :: _, [], _, h, _ => by simp at h
  | e :: l, en :: ents, i, h, hks => by
    simp only [List.map_cons, List.cons.injEq] at h
    obtain ⟨r, hr, hiff⟩ := MapKept.sameNow_of_keys hk (a := k) (b := e.key) (by rw [h.1]; exact hks en (by simp))
    have ih := findNow_aFind hk l ents (i + 1) h.2 fun x hx => hks x (by simp [hx])
    cases r with
    | true =>
      have : en.1 = k := by rw [← h.1, hiff.1 rfl]
      simp [Instr.findNow, hr, aFind, this]
    | false =>
      have hne : ¬ en.1 = k := fun q => by have := hiff.2 (by rw [h.1, q]); cases this
      simp only [Instr.findNow, hr, aFind, hne, if_false, ih]
      cases aFind k ents with
      | none => simp
      | some p =>
        simp
        cases l[p.1]? with
        | none => rfl
        | some x => simp; omega

/-- The object of a map's value. -/
theorem R.map_at {E : Env} {Γ : Ctx} {σ : Store} {w : World} (hr : R E Γ σ w) {i : Nat} {v : Value} (hv : VR Γ w (.mp i) v) {ents : List (Value × AV)} {born : List Nat} {clock : Nat} (hi : σ.get i = some (.map ents born clock)) :
    ∃ l b es, Γ.get i = some l ∧ l.blk = some b ∧ l.gen = 0 ∧ v = .map (some b) ∧ w.heap[b]? = some (.map es clock) ∧ es.size = ents.length ∧
      (∀ (k : Nat) (e : MapEntry) (en : Value × AV), es[k]? = some e → ents[k]? = some en → e.key = en.1 ∧ VR Γ w en.2 e.val) ∧ es.toList.map (·.born) = born := by
  obtain ⟨l, hl, ho, _⟩ := hr.loc hi
  obtain ⟨h0, b, es, hb, hh, hs, he, hn⟩ := ho
  cases hv with
  | mp i r hlt h =>
    have := h l hl h0
    rw [hb] at this
    cases this
    exact ⟨l, b, es, hl, hb, h0, rfl, hh, hs, he, hn⟩

theorem keys_eq {Γ : Ctx} {w : World} {es : Array MapEntry} {ents : List (Value × AV)} (hs : es.size = ents.length) (he : ∀ (k : Nat) (e : MapEntry) (en : Value × AV), es[k]? = some e → ents[k]? = some en → e.key = en.1 ∧ VR Γ w en.2 e.val) : es.toList.map (·.key) = ents.map (·.1) := by
  refine List.ext_getElem? fun j => ?_
  simp only [List.getElem?_map, Array.getElem?_toList]
  rcases Nat.lt_or_ge j es.size with h | h
  · have h' : j < ents.length := by omega
    rw [Array.getElem?_eq_getElem h, List.getElem?_eq_getElem h']
    simp only [Option.map_some]
    rw [(he j _ _ (Array.getElem?_eq_getElem h) (List.getElem?_eq_getElem h')).1]
  · rw [Array.getElem?_eq_none h, List.getElem?_eq_none (by omega)]
    rfl

/-- What a search for a key finds. -/
theorem run_find {P : Program} {Γ : Ctx} {w : World} {es : Array MapEntry} {ents : List (Value × AV)} (hs : es.size = ents.length) (he : ∀ (k : Nat) (e : MapEntry) (en : Value × AV), es[k]? = some e → ents[k]? = some en → e.key = en.1 ∧ VR Γ w en.2 e.val)
    {kt : TypeId} {k : Value} (hk : keyOk (tk P kt) k) (hks : ∀ e ∈ ents, keyOk (tk P kt) e.1) :
    (∀ b, (Instr.checkKey b 10000 kt k).run P w = .ok () w) ∧ (Instr.keyThatStays k k).run P w = .ok k w ∧
    (match aFind k ents with
      | none => (Instr.findKey kt k es.toList).run P w = .ok none w
      | some (j, a) => ∃ e, es[j]? = some e ∧ e.key = k ∧ VR Γ w a e.val ∧ (Instr.findKey kt k es.toList).run P w = .ok (some (j, e.val)) w) := by
  obtain ⟨d, hd, hkd⟩ := isKey_of hk
  refine ⟨fun b => MapKept.run_checkKey hd (hkd k hk) b 9999, MapKept.run_keyThatStays (hkd k hk), ?_⟩
  have hf := findNow_aFind (hkd k hk) es.toList ents 0 (keys_eq hs he) fun x hx => hkd _ (hks x hx)
  cases ha : aFind k ents with
  | none =>
    rw [ha] at hf
    exact MapKept.run_findKey hd hf
  | some p =>
    obtain ⟨j, a⟩ := p
    have hg := aFind_get ha
    have hj : j < es.size := by rw [hs]; exact (List.getElem?_eq_some_iff.1 hg).1
    obtain ⟨h1, h2⟩ := he j _ _ (Array.getElem?_eq_getElem hj) hg
    refine ⟨es[j], Array.getElem?_eq_getElem hj, h1, h2, ?_⟩
    rw [ha] at hf
    simp only [Option.bind_some, Array.getElem?_toList, Array.getElem?_eq_getElem hj, Option.map_some, Nat.zero_add] at hf
    exact MapKept.run_findKey hd hf

/-- Writing an object that is no row. -/
theorem R.put {E : Env} {Γ : Ctx} {σ : Store} {w w' : World} {i b : Nat} {o o' : AObj} {l : Loc} {ob : Obj} (hr : R E Γ σ w) (hi : σ.get i = some o) (hl : Γ.get i = some l) (hb : l.blk = some b) (ho : o.lim l = none) (ho' : o'.lim l = none)
    (hh : w'.heap = w.heap.setIfInBounds b ob) (h1 : w'.os = w.os) (h2 : w'.tape = w.tape) (h3 : w'.output = w.output)
    (hob : ∀ (_ : ExtN Γ.next Γ w (Γ.set i l) w') (_ : w'.heap[b]? = some ob), ObjRel E.P (Γ.set i l) w' o' l) : ExtN Γ.next Γ w (Γ.set i l) w' ∧ R E (Γ.set i l) (σ.set i o') w' := by
  have hlt : b < w.heap.size := hr.blk_lt ⟨i, l, hl, hb⟩
  refine hr.upd hi hl ⟨h1, h2, h3, by rw [hh]; simp, fun k hk hne => ?_⟩ (.inl rfl) (.inl rfl) (fun b' m hb' hm => by rw [hr.lims i o l hi hl, ho] at hm; cases hm) (by rw [hr.lims i o l hi hl, ho, ho']) fun hx => hob hx (by rw [hh]; simp [hlt])
  rw [hh, Array.getElem?_setIfInBounds, if_neg (by rintro rfl; exact hne hb.symm)]

/-- A new object that is no row. -/
theorem R.make {E : Env} {Γ : Ctx} {σ : Store} {w : World} {o' : AObj} {ob : Obj} (hr : R E Γ σ w) (ho' : o'.lim ⟨some w.heap.size, 0, 0, 0, none⟩ = none)
    (hob : ∀ (_ : ExtN Γ.next Γ w (Γ.alloc ⟨some w.heap.size, 0, 0, 0, none⟩) (w.alloc ob)) (_ : (w.alloc ob).heap[w.heap.size]? = some ob), ObjRel E.P (Γ.alloc ⟨some w.heap.size, 0, 0, 0, none⟩) (w.alloc ob) o' ⟨some w.heap.size, 0, 0, 0, none⟩) :
    ExtN Γ.next Γ w (Γ.alloc ⟨some w.heap.size, 0, 0, 0, none⟩) (w.alloc ob) ∧ R E (Γ.alloc ⟨some w.heap.size, 0, 0, 0, none⟩) (σ.alloc o') (w.alloc ob) := by
  refine hr.new ⟨rfl, rfl, rfl, by simp, fun k hk _ => ?_⟩ (.inr ⟨_, rfl, Nat.le_refl _⟩) ho'.symm fun hx => hob hx (MapKept.heap_alloc w ob).1
  exact (MapKept.heap_alloc w ob).2 k hk

theorem VR.made {E : Env} {Γ : Ctx} {σ : Store} {w : World} (hr : R E Γ σ w) (w' : World) : VR (Γ.alloc ⟨some w.heap.size, 0, 0, 0, none⟩) w' (.rp σ.next 0 0 0) (.pointer (some ⟨w.heap.size, 0, none⟩)) ∧ VR (Γ.alloc ⟨some w.heap.size, 0, 0, 0, none⟩) w' (.mp σ.next) (.map (some w.heap.size)) := by
  have hn : (Γ.alloc ⟨some w.heap.size, 0, 0, 0, none⟩).get σ.next = some ⟨some w.heap.size, 0, 0, 0, none⟩ := by simp [Ctx.alloc, hr.next]
  refine ⟨.rp _ _ _ _ _ (by simp [Ctx.alloc, hr.next]) fun l hl => ?_, .mp _ _ (by simp [Ctx.alloc, hr.next]) fun l hl _ => ?_⟩
  · rw [hn] at hl; cases hl
    exact ⟨Nat.le_refl _, fun _ => ⟨_, rfl, by simp⟩⟩
  · rw [hn] at hl; cases hl; rfl

theorem iter_at {E : Env} {Γ : Ctx} {σ : Store} {w : World} (hr : R E Γ σ w) {i : Nat} {v : Value} (hv : VR Γ w (.rp i 0 0 0) v) {o : AObj} (hi : σ.get i = some o) (ho : ∀ l, ObjRel E.P Γ w o l → l.gen = 0) :
    ∃ l b, Γ.get i = some l ∧ l.blk = some b ∧ v = .pointer (some ⟨b, 0, none⟩) ∧ ObjRel E.P Γ w o l := by
  obtain ⟨l, hl, hob, _⟩ := hr.loc hi
  cases hv with
  | rp i g k off a hlt h =>
    obtain ⟨b, hb, rfl⟩ := (h l hl).2 (ho l hob)
    exact ⟨l, b, hl, hb, by simp, hob⟩

def aRange (E : Env) (t : TypeId) (x : AV) (σ : Store) (K : AV → Store → Prop) : Prop :=
  match x with
  | .c (.string s) => tk E.P t = .str ∧ K (.rp σ.next 0 0 0) (σ.alloc (.it (.stringIter s 0)))
  | .c (.map none) => (tk E.P t).isMap = true ∧ K (.rp σ.next 0 0 0) (σ.alloc (.it (.mapIter none 0 #[] 0)))
  | .mp m => (tk E.P t).isMap = true ∧ match σ.get m with
    | some (.map ents born clock) => K (.rp σ.next 0 0 0) (σ.alloc (.mi m clock [] clock))
    | _ => False
  | _ => False

def aNext (x : AV) (str : Bool) (σ : Store) (K : AV → Store → Prop) : Prop :=
  match x with
  | .rp i 0 0 0 => (match σ.get i with
    | some (.it (.stringIter s pos)) => str = true ∧ if pos < s.size then K (.tup [.c (.bool true), .c (.int .i64 pos), .c (.int .i32 (Utf8.decode s pos).1)]) (σ.set i (.it (.stringIter s (pos + (Utf8.decode s pos).2))))
      else K (.tup [.c (.bool false)]) σ
    | some (.it (.mapIter none _ _ _)) => str = false ∧ K (.tup [.c (.bool false)]) σ
    | some (.mi m since seen last) => str = false ∧ (match σ.get m with
      | some (.map ents born clock) => (∀ e ∈ ents, e.1.oneCell' = true) ∧ (∀ b ∈ born, b < since) ∧ since ≤ last ∧ ((∀ b ∈ born, b ∈ seen) → K (.tup [.c (.bool false)]) σ) ∧
        ∀ (j : Nat) (en : Value × AV) (b : Nat), ents[j]? = some en → born[j]? = some b → b ∉ seen → K (.tup [.c (.bool true), .c en.1, en.2]) (σ.set i (.mi m since (seen ++ [b]) clock))
      | _ => False)
    | _ => False)
  | _ => False

def aLook (E : Env) (t : TypeId) (x k : AV) (ok : Bool) (σ : Store) (K : AV → Store → Prop) : Prop :=
  match tk E.P t, k with
  | .map kt et, .c kv => keyOk (tk E.P kt) kv ∧ (match tzero E.P et with
    | some z => (match x with
      | .c (.map none) => K (if ok then .tup [AV.ofV z, .c (.bool false)] else AV.ofV z) σ
      | .mp m => (match σ.get m with
        | some (.map ents born clock) => (∀ e ∈ ents, keyOk (tk E.P kt) e.1) ∧ (match aFind kv ents with
          | some p => K (if ok then .tup [p.2, .c (.bool true)] else p.2) σ
          | none => K (if ok then .tup [AV.ofV z, .c (.bool false)] else AV.ofV z) σ)
        | _ => False)
      | _ => False)
    | none => False)
  | _, _ => False

def aMapPut (E : Env) (t : TypeId) (m k x : AV) (σ : Store) (K : AV → Store → Prop) : Prop :=
  match tk E.P t, m, k with
  | .map kt et, .mp i, .c kv => keyOk (tk E.P kt) kv ∧ (match σ.get i with
    | some (.map ents born clock) => (∀ e ∈ ents, keyOk (tk E.P kt) e.1) ∧ (match aFind kv ents with
      | some p => K (.tup []) (σ.set i (.map (ents.set p.1 (kv, x)) born clock))
      | none => K (.tup []) (σ.set i (.map (ents ++ [(kv, x)]) (born ++ [clock]) (clock + 1))))
    | _ => False)
  | _, _, _ => False

def aMapEntry (E : Env) (t : TypeId) (m k : AV) (σ : Store) (K : AV → Store → Prop) : Prop :=
  match tk E.P t, m, k with
  | .map kt et, .mp i, .c kv => keyOk (tk E.P kt) kv ∧ (match σ.get i, tzero E.P et with
    | some (.map ents born clock), some z => (∀ e ∈ ents, keyOk (tk E.P kt) e.1) ∧ (match aFind kv ents with
      | some p => K (.tup [p.2, .c (.int .i64 (born.getD p.1 0))]) (σ.set i (.map ents born clock))
      | none => K (.tup [AV.ofV z, .c (.int .i64 clock)]) (σ.set i (.map (ents ++ [(kv, AV.ofV z)]) (born ++ [clock]) (clock + 1))))
    | _, _ => False)
  | _, _, _ => False

def aEntryStore (m s x : AV) (σ : Store) (K : AV → Store → Prop) : Prop :=
  match m, s with
  | .mp i, .c (.int _ n) => (match σ.get i with
    | some (.map ents born clock) => (match born.findIdx? (fun b : Nat => (b : Int) == n) with
      | some j => K (.tup []) (σ.set i (.map (ents.modify j fun e => (e.1, x)) born clock))
      | none => False)
    | _ => False)
  | _, _ => False

def aMapDel (E : Env) (t : TypeId) (m k : AV) (σ : Store) (K : AV → Store → Prop) : Prop :=
  match tk E.P t, m, k with
  | .map kt et, .mp i, .c kv => keyOk (tk E.P kt) kv ∧ (match σ.get i with
    | some (.map ents born clock) => (∀ e ∈ ents, keyOk (tk E.P kt) e.1) ∧ (match aFind kv ents with
      | some p => K (.tup []) (σ.set i (.map (ents.eraseIdx p.1) (born.eraseIdx p.1) clock))
      | none => K (.tup []) (σ.set i (.map ents born clock)))
    | _ => False)
  | _, _, _ => False

def aAssert (E : Env) (x : AV) (t : TypeId) (ok : Bool) (K : AV → Prop) : Prop :=
  tk E.P t ≠ .ifc ∧ tk E.P t ≠ .other ∧ (match x with
  | .ifc u v => if u = t then K (if ok then .tup [v, .c (.bool true)] else v) else ok = true ∧ (match tzero E.P t with
    | some z => K (.tup [AV.ofV z, .c (.bool false)])
    | none => False)
  | .c .nilIface => ok = true ∧ (match tzero E.P t with
    | some z => K (.tup [AV.ofV z, .c (.bool false)])
    | none => False)
  | _ => False)

theorem run_tzero {P : Program} {t : TypeId} {z : Value} (h : tzero P t = some z) (w : World) : (zeroValue t).run P w = .ok z w := by
  unfold tzero at h
  cases hi : P.info? t with
  | none => simp [hi] at h
  | some i => simp [hi] at h; simp [zeroValue, typeInfo, hi, h]

theorem isMap_some {P : Program} {t : TypeId} (h : (tk P t).isMap = true) : ∃ k e, P.underlying t = some (.map k e) := by
  cases hk : tk P t <;> simp [hk, TK.isMap] at h
  exact ⟨_, _, tk_map hk⟩
theorem aRange_ok {E : Env} {Γ : Ctx} {σ : Store} {w : World} {t : TypeId} {x : AV} {xv : Value} {K : AV → Store → Prop} (hr : R E Γ σ w) (hx : VR Γ w x xv) (h : aRange E t x σ K) : Up E Γ w K ((do pure (.value (← Instr.range t xv)) : Sem Next).run E.P w) := by
  unfold aRange at h
  split at h
  · rename_i s
    cases hx
    obtain ⟨ht, h⟩ := h
    obtain ⟨k1, k2⟩ := hr.make (o' := .it (.stringIter s 0)) (ob := .stringIter s 0) rfl fun hx hh => ⟨rfl, _, rfl, hh, rfl⟩
    refine Up.value (v := .pointer (some ⟨w.heap.size, 0, none⟩)) (w' := w.alloc (.stringIter s 0)) ?_ ⟨_, _, _, k1, k2, (VR.made hr _).1, h⟩
    simp [Instr.range, run_underlying (tk_str ht), Result.andThen]
  · cases hx
    obtain ⟨ht, h⟩ := h
    obtain ⟨k, e, ht⟩ := isMap_some ht
    obtain ⟨k1, k2⟩ := hr.make (o' := .it (.mapIter none 0 #[] 0)) (ob := .mapIter none 0 #[] 0) rfl fun hx hh => ⟨rfl, _, rfl, hh, rfl⟩
    refine Up.value (v := .pointer (some ⟨w.heap.size, 0, none⟩)) (w' := w.alloc (.mapIter none 0 #[] 0)) ?_ ⟨_, _, _, k1, k2, (VR.made hr _).1, h⟩
    simp [Instr.range, run_underlying ht, Result.andThen]
  · rename_i m
    obtain ⟨ht, h⟩ := h
    obtain ⟨k, e, ht⟩ := isMap_some ht
    split at h
    · rename_i ents born clock hm
      obtain ⟨l, b, es, hl, hb, h0, rfl, hh, hs, he, hn⟩ := hr.map_at hx hm
      obtain ⟨k1, k2⟩ := hr.make (o' := .mi m clock [] clock) (ob := .mapIter (some b) clock #[] clock) rfl fun hx' hh => ⟨rfl, _, b, rfl, hh, hx.ext hx'⟩
      refine Up.value (v := .pointer (some ⟨w.heap.size, 0, none⟩)) (w' := w.alloc (.mapIter (some b) clock #[] clock)) ?_ ⟨_, _, _, k1, k2, (VR.made hr _).1, h⟩
      simp [Instr.range, run_underlying ht, Result.andThen, MapKept.run_getObj_map hh]
    · exact h.elim
  · exact h.elim
theorem aNext_ok {E : Env} {Γ : Ctx} {σ : Store} {w : World} {ty : TypeId} {x : AV} {xv : Value} {str : Bool} {K : AV → Store → Prop} (hr : R E Γ σ w) (hx : VR Γ w x xv) (h : aNext x str σ K) : Up E Γ w K ((do pure (.value (← Instr.next xv str ty)) : Sem Next).run E.P w) := by
  unfold aNext at h
  split at h
  · rename_i i
    split at h
    · rename_i s pos hi
      obtain ⟨rfl, h⟩ := h
      obtain ⟨l, b, hl, hb, rfl, ho⟩ := iter_at hr hx hi fun l hl => hl.1
      obtain ⟨h0, b', hb', hh, _⟩ := ho
      obtain rfl : b' = b := by rw [hb] at hb'; exact (Option.some.inj hb').symm
      split at h
      · rename_i hp
        obtain ⟨k1, k2⟩ := hr.put (w' := ChangeMaps.setBlock w b' (.stringIter s (pos + (Utf8.decode s pos).2))) (o' := .it (.stringIter s (pos + (Utf8.decode s pos).2))) hi hl hb rfl rfl rfl rfl rfl rfl fun hx hh => ⟨h0, _, hb, hh, rfl⟩
        refine Up.value (v := .tuple #[.bool true, .int .i64 pos, .int .i32 (Utf8.decode s pos).1]) ?_ ⟨_, _, _, k1, k2, ?_, h⟩
        · simp only [Instr.next, getObj, Sem.run_bind, Sem.run, hh, Result.andThen, if_pos hp, setObj, goInt]
          rfl
        · refine .tup _ _ rfl ?_
          intro j a x ha hx
          match j, ha, hx with
          | 0, ha, hx => cases ha; cases hx; exact .c _ rfl
          | 1, ha, hx => cases ha; cases hx; exact .c _ rfl
          | 2, ha, hx => cases ha; cases hx; exact .c _ rfl
          | j + 3, ha, hx => simp at ha
      · rename_i hp
        refine Up.value (v := .tuple #[.bool false]) (w' := w) ?_ (Res.same hr ?_ h)
        · simp only [Instr.next, getObj, Sem.run_bind, Sem.run, hh, Result.andThen, if_neg hp]
          rfl
        · refine .tup _ _ rfl ?_
          intro j a x ha hx
          match j, ha, hx with
          | 0, ha, hx => cases ha; cases hx; exact .c _ rfl
          | j + 1, ha, hx => simp at ha
    · rename_i a1 a2 a3 hi
      obtain ⟨rfl, h⟩ := h
      obtain ⟨l, b, hl, hb, rfl, ho⟩ := iter_at hr hx hi fun l hl => hl.1
      obtain ⟨h0, b', hb', hh, _⟩ := ho
      obtain rfl : b' = b := by rw [hb] at hb'; exact (Option.some.inj hb').symm
      refine Up.value (v := .tuple #[.bool false]) (w' := w) ?_ (Res.same hr ?_ h)
      · simp only [Instr.next, getObj, Sem.run_bind, Sem.run, hh, Result.andThen]
        rfl
      · refine .tup _ _ rfl ?_
        intro j a x ha hx
        match j, ha, hx with
        | 0, ha, hx => cases ha; cases hx; exact .c _ rfl
        | j + 1, ha, hx => simp at ha
    · rename_i m since seen last hi
      obtain ⟨rfl, h⟩ := h
      split at h
      · rename_i ents born clock hm
        obtain ⟨hone, hold, hsl, hend, hstep⟩ := h
        obtain ⟨l, b, hl, hb, rfl, ho⟩ := iter_at hr hx hi fun l hl => hl.1
        obtain ⟨h0, b', bm, hb', hh, hmv⟩ := ho
        obtain rfl : b' = b := by rw [hb] at hb'; exact (Option.some.inj hb').symm
        obtain ⟨lm, bm', es, hlm, hbm, h0m, hbe, hhm, hsz, hes, hborn⟩ := hr.map_at hmv hm
        cases hbe
        have hold' : ∀ x ∈ es.toList, x.born < since := fun x hx => hold _ (by rw [← hborn]; exact List.mem_map.2 ⟨x, hx, rfl⟩)
        rcases run_next_at (P := E.P) w ty b' bm since last seen.toArray es clock hh hhm hold' hsl with ⟨hz, hrun⟩ | ⟨e, he, w1, hw1, hrun⟩
        · refine Up.value hrun (Res.same hr ?_ (hend fun q hq => ?_))
          · refine .tup _ _ rfl ?_
            intro j a x ha hx
            match j, ha, hx with
            | 0, ha, hx => cases ha; cases hx; exact .c _ rfl
            | j + 1, ha, hx => simp at ha
          · rw [← hborn] at hq
            obtain ⟨x, hx, rfl⟩ := List.mem_map.1 hq
            by_cases hc : x.born ∈ seen
            · exact hc
            · exfalso
              have : x ∈ leftOf es seen.toArray := by
                unfold leftOf
                rw [Array.mem_filter]
                exact ⟨Array.mem_toList_iff.1 hx, by simpa using hc⟩
              have h1 : leftOf es seen.toArray = #[] := Array.eq_empty_of_size_eq_zero hz
              rw [h1] at this
              simp at this
        · unfold leftOf at he
          rw [Array.mem_toList_iff, Array.mem_filter] at he
          obtain ⟨hem, hes'⟩ := he
          obtain ⟨j, hj, hje⟩ := Array.getElem_of_mem hem
          have hj' : j < ents.length := by omega
          obtain ⟨q1, q2⟩ := hes j e _ (by rw [← hje]; exact Array.getElem?_eq_getElem hj) (List.getElem?_eq_getElem hj')
          have hbj : born[j]? = some e.born := by rw [← hborn]; simp [← hje, hj]
          have hk := hstep j _ e.born (List.getElem?_eq_getElem hj') hbj (by simpa using hes')
          have hwh : w1.heap = w.heap ∧ w1.os = w.os ∧ w1.tape = w.tape ∧ w1.output = w.output := by rcases hw1 with rfl | rfl <;> exact ⟨rfl, rfl, rfl, rfl⟩
          obtain ⟨k1, k2⟩ := hr.put (w' := ChangeMaps.setBlock w1 b' (.mapIter (some bm) since (seen.toArray.push e.born) clock)) (o' := .mi m since (seen ++ [e.born]) clock) hi hl hb rfl rfl (by simp [ChangeMaps.setBlock, hwh.1]; rfl) hwh.2.1 hwh.2.2.1 hwh.2.2.2 fun hx hh => ⟨h0, _, bm, hb, by simpa using hh, hmv.ext hx⟩
          refine Up.value hrun ⟨_, _, _, k1, k2, ?_, hk⟩
          refine .tup _ _ rfl ?_
          intro j' a x ha hx
          match j', ha, hx with
          | 0, ha, hx => cases ha; cases hx; exact .c _ rfl
          | 1, ha, hx => cases ha; cases hx; rw [q1]; exact .c _ (hone _ (List.getElem_mem hj'))
          | 2, ha, hx => cases ha; cases hx; exact q2.ext k1
          | j + 3, ha, hx => simp at ha
      · exact h.elim
    · exact h.elim
  · exact h.elim

theorem pair_vr {Γ : Ctx} {w : World} {a b : AV} {x y : Value} (h1 : VR Γ w a x) (h2 : VR Γ w b y) : VR Γ w (.tup [a, b]) (.tuple #[x, y]) := by
  refine .tup _ _ rfl ?_
  intro j c z hc hz
  match j, hc, hz with
  | 0, hc, hz => cases hc; cases hz; exact h1
  | 1, hc, hz => cases hc; cases hz; exact h2
  | j + 2, hc, hz => simp at hc

theorem aLook_ok {E : Env} {Γ : Ctx} {σ : Store} {w : World} {t : TypeId} {x k : AV} {xv kv : Value} {ok : Bool} {K : AV → Store → Prop} (hr : R E Γ σ w) (hx : VR Γ w x xv) (hk : VR Γ w k kv) (h : aLook E t x k ok σ K) : Up E Γ w K ((do pure (.value (← Instr.lookup t xv kv ok)) : Sem Next).run E.P w) := by
  unfold aLook at h
  split at h
  · rename_i kt et kv' ht
    cases hk
    obtain ⟨hkv, h⟩ := h
    have hu := tk_map ht
    split at h
    · rename_i z hz
      have hzr := run_tzero hz
      split at h
      · cases hx
        obtain ⟨c1, _, c3⟩ := run_find (Γ := Γ) (w := w) (es := #[]) (ents := []) rfl (by simp) hkv (by simp)
        simp only [aFind] at c3
        cases ok with
        | true =>
          refine Up.value (v := .tuple #[z, .bool false]) (w' := w) ?_ (Res.same hr (pair_vr (VR.ofV _ _ _) (.c _ rfl)) h)
          simp [Instr.lookup, run_underlying hu, Result.andThen, c1, c3, hzr]
        | false =>
          refine Up.value (v := z) (w' := w) ?_ (Res.same hr (VR.ofV _ _ _) h)
          simp [Instr.lookup, run_underlying hu, Result.andThen, c1, c3, hzr]
      · rename_i m
        split at h
        · rename_i ents born clock hm
          obtain ⟨l, b, es, hl, hb, h0, rfl, hh, hs, he, hn⟩ := hr.map_at hx hm
          obtain ⟨hks, h⟩ := h
          obtain ⟨c1, _, c3⟩ := run_find hs he hkv hks
          split at h
          · rename_i p hp
            obtain ⟨j, a⟩ := p
            rw [hp] at c3
            obtain ⟨e, e1, e2, e3, e4⟩ := c3
            cases ok with
            | true =>
              refine Up.value (v := .tuple #[e.val, .bool true]) (w' := w) ?_ (Res.same hr (pair_vr e3 (.c _ rfl)) h)
              simp [Instr.lookup, run_underlying hu, Result.andThen, MapKept.run_getObj_map hh, c1, e4]
            | false =>
              refine Up.value (v := e.val) (w' := w) ?_ (Res.same hr e3 h)
              simp [Instr.lookup, run_underlying hu, Result.andThen, MapKept.run_getObj_map hh, c1, e4]
          · rename_i hp
            rw [hp] at c3
            cases ok with
            | true =>
              refine Up.value (v := .tuple #[z, .bool false]) (w' := w) ?_ (Res.same hr (pair_vr (VR.ofV _ _ _) (.c _ rfl)) h)
              simp [Instr.lookup, run_underlying hu, Result.andThen, MapKept.run_getObj_map hh, c1, c3, hzr]
            | false =>
              refine Up.value (v := z) (w' := w) ?_ (Res.same hr (VR.ofV _ _ _) h)
              simp [Instr.lookup, run_underlying hu, Result.andThen, MapKept.run_getObj_map hh, c1, c3, hzr]
        · exact h.elim
      · exact h.elim
    · exact h.elim
  · exact h.elim

/-- A map with one entry more. -/
theorem R.map_push {E : Env} {Γ : Ctx} {σ : Store} {w : World} {i b : Nat} {ents : List (Value × AV)} {born : List Nat} {clock : Nat} {l : Loc} {es : Array MapEntry} {k v : Value} {a : AV} (hr : R E Γ σ w) (hi : σ.get i = some (.map ents born clock)) (hl : Γ.get i = some l) (hb : l.blk = some b) (h0 : l.gen = 0)
    (hs : es.size = ents.length) (he : ∀ (k : Nat) (e : MapEntry) (en : Value × AV), es[k]? = some e → ents[k]? = some en → e.key = en.1 ∧ VR Γ w en.2 e.val) (hn : es.toList.map (·.born) = born) (hv : VR Γ w a v) :
    ExtN Γ.next Γ w (Γ.set i l) (ChangeMaps.setBlock w b (.map (es.push { key := k, val := v, born := clock }) (clock + 1))) ∧ R E (Γ.set i l) (σ.set i (.map (ents ++ [(k, a)]) (born ++ [clock]) (clock + 1))) (ChangeMaps.setBlock w b (.map (es.push { key := k, val := v, born := clock }) (clock + 1))) := by
  refine hr.put hi hl hb rfl rfl rfl rfl rfl rfl fun hx hh => ⟨h0, b, _, hb, hh, by simp [hs], ?_, by simp [hn]⟩
  intro j e en hje hjn
  rw [Array.getElem?_push] at hje
  rw [hs] at hje
  split at hje
  · rename_i hj
    subst hj
    cases hje
    simp at hjn
    subst hjn
    exact ⟨rfl, hv.ext hx⟩
  · rename_i hj
    have hlt : j < ents.length := by
      have := (Array.getElem?_eq_some_iff.1 hje).1
      omega
    rw [List.getElem?_append_left hlt] at hjn
    exact ⟨(he j e en hje hjn).1, (he j e en hje hjn).2.ext hx⟩

/-- A map with another value for an entry. -/
theorem R.map_mod {E : Env} {Γ : Ctx} {σ : Store} {w : World} {i b j : Nat} {ents : List (Value × AV)} {born : List Nat} {clock : Nat} {l : Loc} {es : Array MapEntry} {k : Value} {a : AV} {f : MapEntry → MapEntry} (hr : R E Γ σ w) (hi : σ.get i = some (.map ents born clock)) (hl : Γ.get i = some l) (hb : l.blk = some b) (h0 : l.gen = 0)
    (hs : es.size = ents.length) (he : ∀ (k : Nat) (e : MapEntry) (en : Value × AV), es[k]? = some e → ents[k]? = some en → e.key = en.1 ∧ VR Γ w en.2 e.val) (hn : es.toList.map (·.born) = born)
    (hf : ∀ e, es[j]? = some e → (f e).key = k ∧ VR Γ w a (f e).val) (hfb : ∀ e, (f e).born = e.born) :
    ExtN Γ.next Γ w (Γ.set i l) (ChangeMaps.setBlock w b (.map (es.modify j f) clock)) ∧ R E (Γ.set i l) (σ.set i (.map (ents.set j (k, a)) born clock)) (ChangeMaps.setBlock w b (.map (es.modify j f) clock)) := by
  refine hr.put hi hl hb rfl rfl rfl rfl rfl rfl fun hx hh => ⟨h0, b, _, hb, hh, by simp [hs], ?_, ?_⟩
  · intro m e en hm hn'
    rw [Array.getElem?_modify] at hm
    rw [List.getElem?_set] at hn'
    split at hm
    · rename_i hjm
      subst hjm
      cases hq : es[j]? with
      | none => simp [hq] at hm
      | some e' =>
        simp [hq] at hm
        subst hm
        rw [if_pos rfl] at hn'
        split at hn'
        · cases hn'
          exact ⟨(hf e' hq).1, (hf e' hq).2.ext hx⟩
        · cases hn'
    · rename_i hjm
      rw [if_neg hjm] at hn'
      exact ⟨(he m e en hm hn').1, (he m e en hm hn').2.ext hx⟩
  · rw [← hn]
    refine List.ext_getElem? fun m => ?_
    simp only [List.getElem?_map, Array.getElem?_toList, Array.getElem?_modify]
    split
    · rename_i hjm
      subst hjm
      cases es[j]? with
      | none => rfl
      | some x => simp [hfb]
    · rfl

theorem aMapPut_ok {E : Env} {Γ : Ctx} {σ : Store} {w : World} {t : TypeId} {m k x : AV} {mv kv xv : Value} {K : AV → Store → Prop} (hr : R E Γ σ w) (hm : VR Γ w m mv) (hk : VR Γ w k kv) (hx : VR Γ w x xv) (h : aMapPut E t m k x σ K) : Up E Γ w K ((do Instr.mapUpdate t mv kv xv; pure .skip : Sem Next).run E.P w) := by
  unfold aMapPut at h
  split at h
  · rename_i kt et i kv' ht
    cases hk
    obtain ⟨hkv, h⟩ := h
    have hu := tk_map ht
    split at h
    · rename_i ents born clock hi
      obtain ⟨l, b, es, hl, hb, h0, rfl, hh, hs, he, hn⟩ := hr.map_at hm hi
      obtain ⟨hks, h⟩ := h
      obtain ⟨c1, c2, c3⟩ := run_find hs he hkv hks
      split at h
      · rename_i p hp
        obtain ⟨j, a⟩ := p
        rw [hp] at c3
        obtain ⟨e, e1, e2, e3, e4⟩ := c3
        obtain ⟨k1, k2⟩ := hr.map_mod (j := j) (k := kv) (a := x) (f := fun e => { e with key := kv, val := xv }) hi hl hb h0 hs he hn (fun e _ => ⟨rfl, hx⟩) fun _ => rfl
        refine Up.unit ?_ ⟨_, _, _, k1, k2, VR.undef_ _ _, h⟩
        simp [Instr.mapUpdate, run_underlying hu, Result.andThen, MapKept.run_getObj_map hh, c1, c2, e4, e1, e2, MapKept.run_setObj_map _ hh, ChangeMaps.setBlock]
      · rename_i hp
        rw [hp] at c3
        obtain ⟨k1, k2⟩ := hr.map_push (k := kv) hi hl hb h0 hs he hn hx
        refine Up.unit ?_ ⟨_, _, _, k1, k2, VR.undef_ _ _, h⟩
        simp [Instr.mapUpdate, run_underlying hu, Result.andThen, MapKept.run_getObj_map hh, c1, c3, MapKept.run_setObj_map _ hh, ChangeMaps.setBlock]
    · exact h.elim
  · exact h.elim

theorem set_self {α : Type} {l : List α} {j : Nat} {a : α} (h : l[j]? = some a) : l.set j a = l := by
  refine List.ext_getElem? fun m => ?_
  rw [List.getElem?_set]
  split
  · subst_vars
    have := (List.getElem?_eq_some_iff.1 h).1
    rw [if_pos this, h]
  · rfl

theorem aMapEntry_ok {E : Env} {Γ : Ctx} {σ : Store} {w : World} {t : TypeId} {m k : AV} {mv kv : Value} {K : AV → Store → Prop} (hr : R E Γ σ w) (hm : VR Γ w m mv) (hk : VR Γ w k kv) (h : aMapEntry E t m k σ K) : Up E Γ w K ((do pure (.value (← Instr.mapEntry t mv kv)) : Sem Next).run E.P w) := by
  unfold aMapEntry at h
  split at h
  · rename_i kt et i kv' ht
    cases hk
    obtain ⟨hkv, h⟩ := h
    have hu := tk_map ht
    split at h
    · rename_i ents born clock z hi hz
      have hzr := run_tzero hz
      obtain ⟨l, b, es, hl, hb, h0, rfl, hh, hs, he, hn⟩ := hr.map_at hm hi
      obtain ⟨hks, h⟩ := h
      obtain ⟨c1, c2, c3⟩ := run_find hs he hkv hks
      split at h
      · rename_i p hp
        obtain ⟨j, a⟩ := p
        rw [hp] at c3
        obtain ⟨e, e1, e2, e3, e4⟩ := c3
        have hg := aFind_get hp
        obtain ⟨k1, k2⟩ := hr.map_mod (j := j) (k := kv) (a := a) (f := fun e => { e with key := kv }) hi hl hb h0 hs he hn (fun e' he' => ⟨rfl, by rw [e1] at he'; cases he'; exact e3⟩) fun _ => rfl
        rw [set_self hg] at k2
        refine Up.value (v := .tuple #[e.val, .int .i64 e.born]) ?_ ⟨_, _, _, k1, k2, pair_vr (e3.ext k1) ?_, h⟩
        · simp [Instr.mapEntry, run_underlying hu, Result.andThen, MapKept.run_getObj_map hh, c1, c2, e4, e1, e2, MapKept.run_setObj_map _ hh, ChangeMaps.setBlock, goInt]
        · have : born.getD j 0 = e.born := by rw [← hn]; simp [List.getD, e1]
          rw [this]
          exact .c _ rfl
      · rename_i hp
        rw [hp] at c3
        obtain ⟨k1, k2⟩ := hr.map_push (k := kv) (v := z) hi hl hb h0 hs he hn (VR.ofV _ _ _)
        refine Up.value (v := .tuple #[z, .int .i64 clock]) ?_ ⟨_, _, _, k1, k2, pair_vr (VR.ofV _ _ _) (.c _ rfl), h⟩
        simp [Instr.mapEntry, run_underlying hu, Result.andThen, MapKept.run_getObj_map hh, c1, c3, hzr, MapKept.run_setObj_map _ hh, ChangeMaps.setBlock, goInt]
    · exact h.elim
  · exact h.elim

theorem aEntryStore_ok {E : Env} {Γ : Ctx} {σ : Store} {w : World} {t : TypeId} {m s x : AV} {mv sv xv : Value} {K : AV → Store → Prop} (hr : R E Γ σ w) (hm : VR Γ w m mv) (hsv : VR Γ w s sv) (hx : VR Γ w x xv) (h : aEntryStore m s x σ K) : Up E Γ w K ((do Instr.entryStore t mv sv xv; pure .skip : Sem Next).run E.P w) := by
  unfold aEntryStore at h
  split at h
  · rename_i i kk n
    cases hsv
    split at h
    · rename_i ents born clock hi
      obtain ⟨l, b, es, hl, hb, h0, rfl, hh, hs, he, hn⟩ := hr.map_at hm hi
      split at h
      · rename_i j hj
        have hlt : j < es.size := by
          have := (List.findIdx?_eq_some_iff_getElem.1 hj).1
          rw [← hn] at this
          simpa using this
        obtain ⟨k1, k2⟩ := hr.map_mod (j := j) (k := (ents[j]'(by omega)).1) (a := x) (f := fun e => { e with val := xv }) hi hl hb h0 hs he hn (fun e' he' => ⟨(he j e' _ he' (List.getElem?_eq_getElem (by omega))).1, hx⟩) fun _ => rfl
        have hmod : ents.modify j (fun e => (e.1, x)) = ents.set j ((ents[j]'(by omega)).1, x) := by
          refine List.ext_getElem? fun m => ?_
          rw [List.getElem?_modify, List.getElem?_set]
          split
          · rename_i hjm
            subst hjm
            rw [if_pos (by omega), List.getElem?_eq_getElem (by omega)]
            rfl
          · simp
        rw [← hmod] at k2
        refine Up.unit ?_ ⟨_, _, _, k1, k2, VR.undef_ _ _, h⟩
        have hf : es.findIdx? (fun e => (e.born : Int) == n) = some j := by
          rw [← hn] at hj
          rw [List.findIdx?_map] at hj
          rw [← hj, ← List.findIdx?_toArray]
          rfl
        simp [Instr.entryStore, Result.andThen, MapKept.run_getObj_map hh, hf, MapKept.run_setObj_map _ hh, ChangeMaps.setBlock, asInt, asIntOf]
      · exact h.elim
    · exact h.elim
  · exact h.elim

theorem aMapDel_ok {E : Env} {Γ : Ctx} {σ : Store} {w : World} {t ty : TypeId} {ts : Array TypeId} (hts : ts[0]? = some t) {m k : AV} {mv kv : Value} {K : AV → Store → Prop} (hr : R E Γ σ w) (hm : VR Γ w m mv) (hk : VR Γ w k kv) (h : aMapDel E t m k σ K) : Up E Γ w K ((do pure (.value (← Builtin.delete_ ts ty #[mv, kv])) : Sem Next).run E.P w) := by
  unfold aMapDel at h
  split at h
  · rename_i kt et i kv' ht
    cases hk
    obtain ⟨hkv, h⟩ := h
    have hu := tk_map ht
    split at h
    · rename_i ents born clock hi
      obtain ⟨l, b, es, hl, hb, h0, rfl, hh, hs, he, hn⟩ := hr.map_at hm hi
      obtain ⟨hks, h⟩ := h
      obtain ⟨c1, c2, c3⟩ := run_find hs he hkv hks
      split at h
      · rename_i p hp
        obtain ⟨j, a⟩ := p
        rw [hp] at c3
        obtain ⟨e, e1, e2, e3, e4⟩ := c3
        have hjs : j < es.size := (Array.getElem?_eq_some_iff.1 e1).1
        obtain ⟨k1, k2⟩ := hr.put (w' := ChangeMaps.setBlock w b (.map (es.eraseIdxIfInBounds j) clock)) (o' := .map (ents.eraseIdx j) (born.eraseIdx j) clock) hi hl hb rfl rfl rfl rfl rfl rfl fun hx hh => ⟨h0, b, _, hb, hh, by simp [Array.eraseIdxIfInBounds, List.length_eraseIdx, hjs, ← hs], by
          intro q e' en hq1 hq2
          have : (es.eraseIdxIfInBounds j).toList = es.toList.eraseIdx j := by simp [Array.eraseIdxIfInBounds, hjs]
          rw [← Array.getElem?_toList, this, List.getElem?_eraseIdx] at hq1
          rw [List.getElem?_eraseIdx] at hq2
          split at hq1
          · rename_i hqj
            rw [if_pos hqj] at hq2
            rw [Array.getElem?_toList] at hq1
            exact ⟨(he _ e' en hq1 hq2).1, (he _ e' en hq1 hq2).2.ext hx⟩
          · rename_i hqj
            rw [if_neg hqj] at hq2
            rw [Array.getElem?_toList] at hq1
            exact ⟨(he _ e' en hq1 hq2).1, (he _ e' en hq1 hq2).2.ext hx⟩, by
          have : (es.eraseIdxIfInBounds j).toList = es.toList.eraseIdx j := by simp [Array.eraseIdxIfInBounds, hjs]
          rw [this, ← hn]
          refine List.ext_getElem? fun m => ?_
          simp only [List.getElem?_map, List.getElem?_eraseIdx]
          split <;> simp⟩
        refine Up.value (v := .tuple #[]) ?_ ⟨_, _, _, k1, k2, VR.undef_ _ _, h⟩
        simp [Builtin.delete_, hts, run_underlying hu, Result.andThen, MapKept.run_getObj_map hh, c1, e4, MapKept.run_setObj_map _ hh, ChangeMaps.setBlock]
      · rename_i hp
        rw [hp] at c3
        obtain ⟨k1, k2⟩ := hr.put (w' := ChangeMaps.setBlock w b (.map es clock)) (o' := .map ents born clock) hi hl hb rfl rfl rfl rfl rfl rfl fun hx hh => ⟨h0, b, es, hb, hh, hs, fun q e' en hq1 hq2 => ⟨(he _ e' en hq1 hq2).1, (he _ e' en hq1 hq2).2.ext hx⟩, hn⟩
        refine Up.value (v := .tuple #[]) ?_ ⟨_, _, _, k1, k2, VR.undef_ _ _, h⟩
        simp [Builtin.delete_, hts, run_underlying hu, Result.andThen, MapKept.run_getObj_map hh, c1, c3, MapKept.run_setObj_map _ hh, ChangeMaps.setBlock]
    · exact h.elim
  · exact h.elim

theorem aAssert_ok {E : Env} {Γ : Ctx} {σ : Store} {w : World} {xt t : TypeId} {x : AV} {xv : Value} {ok : Bool} {K : AV → Store → Prop} (hr : R E Γ σ w) (hx : VR Γ w x xv) (h : aAssert E x t ok fun a => K a σ) : Up E Γ w K ((do pure (.value (← Instr.typeAssert xv xt t ok)) : Sem Next).run E.P w) := by
  obtain ⟨h1, h2, h⟩ := h
  have hu : ∃ d, E.P.underlying t = some d ∧ ∀ ms, d ≠ .interface ms := by
    unfold tk at h1 h2
    cases hu : E.P.underlying t with
    | none => simp [hu] at h2
    | some d => exact ⟨d, rfl, fun ms e => by subst e; simp [hu] at h1⟩
  obtain ⟨d, hu, hd⟩ := hu
  split at h
  · rename_i u v
    cases hx with
    | ifc _ _ vv hv =>
      split at h
      · rename_i he
        subst he
        cases ok with
        | true =>
          refine Up.value (v := .tuple #[vv, .bool true]) (w' := w) ?_ (Res.same hr (pair_vr hv (.c _ rfl)) h)
          cases d <;> first | exact absurd rfl (hd _) | (simp [Instr.typeAssert, run_underlying hu, Result.andThen]; done)
        | false =>
          refine Up.value (v := vv) (w' := w) ?_ (Res.same hr hv h)
          cases d <;> first | exact absurd rfl (hd _) | (simp [Instr.typeAssert, run_underlying hu, Result.andThen]; done)
      · rename_i he
        obtain ⟨rfl, h⟩ := h
        split at h
        · rename_i z hz
          refine Up.value (v := .tuple #[z, .bool false]) (w' := w) ?_ (Res.same hr (pair_vr (VR.ofV _ _ _) (.c _ rfl)) h)
          cases d <;> first | exact absurd rfl (hd _) | (simp [Instr.typeAssert, run_underlying hu, Result.andThen, he, run_tzero hz]; done)
        · exact h.elim
  · cases hx
    obtain ⟨rfl, h⟩ := h
    split at h
    · rename_i z hz
      refine Up.value (v := .tuple #[z, .bool false]) (w' := w) ?_ (Res.same hr (pair_vr (VR.ofV _ _ _) (.c _ rfl)) h)
      cases d <;> first | exact absurd rfl (hd _) | (simp [Instr.typeAssert, run_underlying hu, Result.andThen, run_tzero hz]; done)
    · exact h.elim
  · exact h.elim

theorem aMapPut_det {E : Env} {t : TypeId} {m k x : AV} {σ : Store} {K : AV → Store → Prop} (h : aMapPut E t m k x σ K) : ∃ a σ', aMapPut E t m k x σ (fun x y => x = a ∧ y = σ') ∧ K a σ' := by
  simp only [aMapPut] at h ⊢
  split at h
  · rename_i ht
    try simp only [ht]
    obtain ⟨h1, h⟩ := h
    split at h
    · rename_i hi
      try simp only [hi]
      obtain ⟨h2, h⟩ := h
      split at h
      · rename_i hp
        try simp only [hp]
        exact ⟨_, _, ⟨h1, h2, rfl, rfl⟩, h⟩
      · rename_i hp
        try simp only [hp]
        exact ⟨_, _, ⟨h1, h2, rfl, rfl⟩, h⟩
    · exact h.elim
  · exact h.elim
theorem aMapDel_det {E : Env} {t : TypeId} {m k : AV} {σ : Store} {K : AV → Store → Prop} (h : aMapDel E t m k σ K) : ∃ a σ', aMapDel E t m k σ (fun x y => x = a ∧ y = σ') ∧ K a σ' := by
  simp only [aMapDel] at h ⊢
  split at h
  · rename_i ht
    try simp only [ht]
    obtain ⟨h1, h⟩ := h
    split at h
    · rename_i hi
      try simp only [hi]
      obtain ⟨h2, h⟩ := h
      split at h
      · rename_i hp
        try simp only [hp]
        exact ⟨_, _, ⟨h1, h2, rfl, rfl⟩, h⟩
      · rename_i hp
        try simp only [hp]
        exact ⟨_, _, ⟨h1, h2, rfl, rfl⟩, h⟩
    · exact h.elim
  · exact h.elim

/-! ### A slice of an array: the array is dropped from the store and written no more -/
def Ctx.drop (Γ : Ctx) (i : Nat) : Ctx := ⟨fun j => if j = i then none else Γ.get j, Γ.next, Γ.base⟩
def Store.drop (σ : Store) (i : Nat) : Store := ⟨fun j => if j = i then none else σ.get j, σ.next⟩
theorem Ctx.drop_some {Γ : Ctx} {i j : Nat} {l : Loc} (h : (Γ.drop i).get j = some l) : Γ.get j = some l ∧ j ≠ i := by
  unfold Ctx.drop at h
  simp only at h
  split at h
  · cases h
  · rename_i e; exact ⟨h, e⟩
theorem Ctx.drop_ext {Γ : Ctx} {w : World} (i : Nat) : ExtN Γ.next Γ w (Γ.drop i) w :=
  ⟨rfl, rfl, rfl, Nat.le_refl _, fun b _ ho => ⟨.inl rfl, fun ⟨j, l, hj, hb⟩ => ho ⟨j, l, (Ctx.drop_some hj).1, hb⟩⟩, fun b k _ hf => ⟨fun _ hv => hv, fun j l hj hb => hf j l (Ctx.drop_some hj).1 hb⟩, fun j l _ hj => ⟨l, (Ctx.drop_some hj).1, Nat.le_refl _, fun _ => rfl⟩, Nat.le_refl _, Nat.le_refl _, rfl⟩
theorem ObjRel.ext {P : Program} {Γ Γ' : Ctx} {w w' : World} {o : AObj} {l : Loc} (h : ObjRel P Γ w o l) (hx : ExtN Γ.next Γ w Γ' w') (hsame : ∀ b, l.blk = some b → w'.heap[b]? = w.heap[b]?) : ObjRel P Γ' w' o l := by
  cases o with
  | arr T g es =>
    simp only [ObjRel] at h ⊢
    obtain ⟨h1, h2, h3, h4, h5, h6⟩ := h
    refine ⟨h1, h2, h3, h4, h5, ?_⟩
    cases hb : l.blk with
    | none => simp only [hb] at h6 ⊢; exact h6
    | some b =>
      simp only [hb] at h6 ⊢
      obtain ⟨xs, fr, q1, q2, q3, q4⟩ := h6
      refine ⟨xs, fr, (hsame b hb).trans q1, q2, q3, fun k e j x hk hj => ?_⟩
      obtain ⟨u, u1, u2, u3⟩ := q4 k e j x hk hj
      exact ⟨u, u1, u2, u3.ext hx⟩
  | map ents born clock =>
    obtain ⟨h0, b, es, q1, q2, q3, q4, q5⟩ := h
    exact ⟨h0, b, es, q1, (hsame b q1).trans q2, q3, fun k e en hk hen => ⟨(q4 k e en hk hen).1, (q4 k e en hk hen).2.ext hx⟩, q5⟩
  | lp b L =>
    obtain ⟨h0, q1, q2⟩ := h
    exact ⟨h0, q1, (hsame b q1).trans q2⟩
  | it o =>
    obtain ⟨h0, b, q1, q2, q3⟩ := h
    exact ⟨h0, b, q1, (hsame b q1).trans q2, q3⟩
  | mi m since seen last =>
    obtain ⟨h0, b, bm, q1, q2, q3⟩ := h
    exact ⟨h0, b, bm, q1, (hsame b q1).trans q2, q3.ext hx⟩
  | log T m =>
    simp only [ObjRel] at h ⊢
    obtain ⟨h1, h2, h3, h4, h5⟩ := h
    refine ⟨h1, h2, h3, h4, ?_⟩
    cases hb : l.blk with
    | none => simp only [hb] at h5 ⊢; exact h5
    | some b =>
      simp only [hb] at h5 ⊢
      obtain ⟨xs, fr, q1, q2⟩ := h5
      exact ⟨xs, fr, (hsame b hb).trans q1, q2⟩
theorem R.drop {E : Env} {Γ : Ctx} {σ : Store} {w : World} (hr : R E Γ σ w) (i : Nat) : R E (Γ.drop i) (σ.drop i) w := by
  refine ⟨hr.next, fun j => ?_, fun j hj => ?_, fun j k lj lk b hj hk => hr.inj j k lj lk b (Ctx.drop_some hj).1 (Ctx.drop_some hk).1, fun j o l ho hl => ?_, fun g cs hg => (hr.glob g cs hg).ext (Ctx.drop_ext i), hr.gbel, hr.base, fun j o l ho hl => ?_⟩
  · show (if j = i then none else Γ.get j).isSome = (if j = i then none else σ.get j).isSome
    split
    · rfl
    · exact hr.dom j
  · show (if j = i then none else σ.get j) = none
    split
    · rfl
    · exact hr.bnd j hj
  · obtain ⟨hl', hne⟩ := Ctx.drop_some hl
    have ho : (if j = i then none else σ.get j) = some o := ho
    rw [if_neg hne] at ho
    exact (hr.objs j o l ho hl').ext (Ctx.drop_ext i) fun _ _ => rfl
  · obtain ⟨hl', hne⟩ := Ctx.drop_some hl
    have ho : (if j = i then none else σ.get j) = some o := ho
    rw [if_neg hne] at ho
    exact hr.lims j o l ho hl'
/-- The elements of an array. -/
def chunks (sz n : Nat) (ag : Bool) (cs : List AV) : List AV := (List.range n).map fun k => if ag = true then .agg ((cs.drop (k * sz)).take sz) else cs.getD (k * sz) .junk
theorem one_cells {Γ : Ctx} {w : World} {x : AV} {u : Value} (h : VR Γ w x u) (hu : u.oneCell' = true) : x.cells = [x] := by
  cases h <;> first | rfl | simp [Value.oneCell'] at hu
theorem chunks_get {sz n k : Nat} {ag : Bool} {cs : List AV} {y : AV} (h : (chunks sz n ag cs)[k]? = some y) : k < n ∧ y = if ag = true then .agg ((cs.drop (k * sz)).take sz) else cs.getD (k * sz) .junk := by
  unfold chunks at h
  rw [List.getElem?_map] at h
  rcases Nat.lt_or_ge k n with hk | hk
  · rw [List.getElem?_range hk] at h
    cases h
    exact ⟨hk, rfl⟩
  · rw [List.getElem?_eq_none (by simpa using hk)] at h
    cases h
theorem ps_chunks {Γ : Ctx} {w : World} {b o sz n cap : Nat} {ag : Bool} {cs : List AV} (hc : CellsAt Γ w b o cs) (hf : ∀ j, j < cs.length → Γ.fixd b (o + j)) (hb : b < w.heap.size) (hn : n * sz ≤ cs.length) (hsz : sz ≠ 0) (hag : ag = false → sz = 1)
    {l h : Nat} (hl : l ≤ h) (hh : h ≤ n) (hcap : h - l ≤ cap) : VR Γ w (.ps (((chunks sz n ag cs).take h).drop l)) (.slice (some (if cap = 0 then ⟨b, o, none⟩ else ⟨b, o + l * sz, none⟩)) (h - l) cap) := by
  obtain ⟨us, a1, a2, a3, a4⟩ := hc.list
  have hlen : (((chunks sz n ag cs).take h).drop l).length = h - l := by simp [chunks]; omega
  have key : ∀ (k : Nat) (e : AV) (j : Nat) (x : AV), (((chunks sz n ag cs).take h).drop l)[k]? = some e → e.cells[j]? = some x → e.cells.length = sz ∧ j < sz ∧ (l + k) * sz + j < cs.length ∧ cs[(l + k) * sz + j]? = some x := by
    intro k e j x hk hj
    rw [List.getElem?_drop, List.getElem?_take] at hk
    split at hk
    · obtain ⟨h1, rfl⟩ := chunks_get hk
      have hlt : (l + k) * sz + sz ≤ cs.length := by
        have : (l + k + 1) * sz ≤ n * sz := Nat.mul_le_mul_right _ (by omega)
        rw [Nat.add_mul (l + k) 1] at this
        omega
      cases ag with
      | true =>
        rw [if_pos rfl] at hj ⊢
        have hj' : ((cs.drop ((l + k) * sz)).take sz)[j]? = some x := hj
        have hc2 : (AV.agg ((cs.drop ((l + k) * sz)).take sz)).cells.length = sz := by
          show ((cs.drop ((l + k) * sz)).take sz).length = sz
          simp; omega
        rw [List.getElem?_take] at hj'
        split at hj'
        · rename_i hjs
          rw [List.getElem?_drop] at hj'
          exact ⟨hc2, hjs, by omega, hj'⟩
        · cases hj'
      | false =>
        have h1' := hag rfl
        subst h1'
        have hlt' : (l + k) * 1 < cs.length := by omega
        have hg : cs[(l + k) * 1]? = some (cs.getD ((l + k) * 1) .junk) := by rw [List.getD, List.getElem?_eq_getElem hlt']; rfl
        rw [if_neg (by simp)] at hj ⊢
        obtain ⟨u, _, u2, u3⟩ := hc _ _ hg
        have hone := one_cells u3 u2
        rw [hone] at hj ⊢
        cases j with
        | zero => simp at hj; subst hj; exact ⟨rfl, by omega, by omega, by simpa using hg⟩
        | succ j => simp at hj
    · cases hk
  have e0 : h - l = (((chunks sz n ag cs).take h).drop l).length := hlen.symm
  have hu : ∀ q x, cs[q]? = some x → us[q]? = some (us.getD q undef) := fun q x hq => by
    have : q < us.length := by rw [a1]; exact (List.getElem?_eq_some_iff.1 hq).1
    rw [List.getD, List.getElem?_eq_getElem this]; rfl
  rw [e0]
  refine .ps _ _ cap b (o + l * sz) (fun k j => us.getD ((l + k) * sz + j) undef) (by omega) (fun hne => ?_) ?_ ?_ ?_
  · have : cap ≠ 0 := by
      intro hz
      exact hne (List.eq_nil_of_length_eq_zero (by omega))
    rw [if_neg this]
    exact ⟨rfl, hb⟩
  · intro k e j x hk hj
    obtain ⟨h1, h2, h3, h4⟩ := key k e j x hk hj
    have e1 : o + l * sz + k * e.cells.length + j = o + ((l + k) * sz + j) := by rw [h1, Nat.add_mul]; omega
    rw [e1]
    exact ⟨a2 _ _ (hu _ _ h4), hf _ h3⟩
  · intro k e j x hk hj
    obtain ⟨h1, h2, h3, h4⟩ := key k e j x hk hj
    exact a3 _ (List.mem_of_getElem? (hu _ _ h4))
  · intro k e j x hk hj
    obtain ⟨h1, h2, h3, h4⟩ := key k e j x hk hj
    exact a4 _ _ _ h4 (hu _ _ h4)
def TK.isArr : TK → Bool
  | .arr .. => true
  | _ => false
def aSliceA (E : Env) (t : TypeId) (x : AV) (lo hi : Option AV) (σ : Store) (K : AV → Store → Prop) : Prop :=
  match tk E.P t, ixOr lo 0 with
  | .arr n e, some l => (match ixOr hi n with
    | some h => 0 ≤ l ∧ l ≤ h ∧ h ≤ n ∧ tsz E.P e ≠ 0 ∧ ((tk E.P e).agg = false → tsz E.P e = 1) ∧ (match x with
      | .pp cs => n * tsz E.P e ≤ cs.length ∧ K (.ps (((chunks (tsz E.P e) n (tk E.P e).agg cs).take h.toNat).drop l.toNat)) σ
      | .rp i g k off => (match σ.get i with
        | some (.arr _ g' es) => g = g' ∧ (match es[k]? with
          | some a => n * tsz E.P e ≤ (a.cells.drop off).length ∧ K (.ps (((chunks (tsz E.P e) n (tk E.P e).agg (a.cells.drop off)).take h.toNat).drop l.toNat)) (σ.drop i)
          | none => False)
        | _ => False)
      | _ => False)
    | none => False)
  | _, _ => False
theorem aSliceA_ok {E : Env} {Γ : Ctx} {σ : Store} {w : World} {t : TypeId} {x : AV} {xv : Value} {lo hi : Option AV} {lov hiv : Option Value} {K : AV → Store → Prop} (hr : R E Γ σ w) (hx : VR Γ w x xv)
    (hlo : IxRel Γ w lo lov) (hhi : IxRel Γ w hi hiv) (h : aSliceA E t x lo hi σ K) : Up E Γ w K ((do pure (.value (← Instr.sliceAt t xv lov hiv none)) : Sem Next).run E.P w) := by
  unfold aSliceA at h
  split at h
  · rename_i n e l ht hl
    have hu := tk_arr ht
    split at h
    · rename_i hh' hh
      obtain ⟨h0, h1, h2, hnz, hag, h⟩ := h
      have hb := run_bounds (P := E.P) (cap := n) false hlo hhi hl hh h0 h1 (by omega)
      have hs := run_tsz hnz w
      have run : ∀ b o, (Instr.sliceAt t (.pointer (some ⟨b, o, none⟩)) lov hiv none).run E.P w = .ok (.slice (some (if n - l.toNat = 0 then ⟨b, o, none⟩ else ⟨b, o + l.toNat * tsz E.P e, none⟩)) (hh'.toNat - l.toNat) (n - l.toNat)) w := by
        intro b o
        by_cases hc : n = l.toNat
        · have hz : n - l.toNat = 0 := by omega
          simp [Instr.sliceAt, Instr.sureAddr, run_underlying hu, hb, hs, eq_true hc, hz]
        · have : ¬ n - l.toNat = 0 := by omega
          simp [Instr.sliceAt, Instr.sureAddr, run_underlying hu, hb, hs, hc, this, addr_add]
      split at h
      · obtain ⟨hn, h⟩ := h
        obtain ⟨b, o, rfl, f1, f2, f3⟩ := hx.pp_cells
        refine Up.value (run b o) (Res.same hr ?_ h)
        exact ps_chunks f3 f1 f2 hn hnz hag (by omega) (by omega) (by omega)
      · rename_i i g k off
        split at h
        · rename_i T g' es hi
          obtain ⟨rfl, h⟩ := h
          split at h
          · rename_i a hk
            obtain ⟨hn, h⟩ := h
            obtain ⟨lc, b, k1, k2, k3, rfl, hc⟩ := hr.rp_cells hx hi hk
            have hlt := hr.blk_lt ⟨i, lc, k1, k2⟩
            have hno : ¬ (Γ.drop i).owns b := by
              rintro ⟨j, lj, hj, hjb⟩
              obtain ⟨hj', hne⟩ := Ctx.drop_some hj
              exact hne (hr.inj j i lj lc b hj' k1 hjb k2)
            refine Up.value (run b (k * lc.sz + off)) ⟨Γ.drop i, _, σ.drop i, Ctx.drop_ext i, hr.drop i, ?_, h⟩
            refine ps_chunks (fun j x hj => ?_) (fun j _ => Ctx.fixd_of hno) hlt hn hnz hag (by omega) (by omega) (by omega)
            obtain ⟨u, u1, u2, u3⟩ := hc j x hj
            exact ⟨u, u1, u2, u3.ext (Ctx.drop_ext i)⟩
          · exact h.elim
        · exact h.elim
      · exact h.elim
    · exact h.elim
  · exact h.elim
theorem aSliceA_det {E : Env} {t : TypeId} {x : AV} {lo hi : Option AV} {σ : Store} {K : AV → Store → Prop} (h : aSliceA E t x lo hi σ K) : ∃ a σ', aSliceA E t x lo hi σ (fun x y => x = a ∧ y = σ') ∧ K a σ' := by
  unfold aSliceA at h ⊢
  split at h
  · split at h
    · rename_i hh
      try simp only [hh]
      obtain ⟨h0, h1, h2, hnz, hag, h⟩ := h
      split at h
      · exact ⟨_, _, ⟨h0, h1, h2, hnz, hag, h.1, rfl, rfl⟩, h.2⟩
      · split at h
        · rename_i hi
          try simp only [hi]
          obtain ⟨hg, h⟩ := h
          split at h
          · rename_i hk
            try simp only [hk]
            exact ⟨_, _, ⟨h0, h1, h2, hnz, hag, hg, h.1, rfl, rfl⟩, h.2⟩
          · exact h.elim
        · exact h.elim
      · exact h.elim
    · exact h.elim
  · exact h.elim

/-! ### The conversion of a growing row of bytes to its own type -/
theorem lg_conv {E : Env} {Γ : Ctx} {σ : Store} {w : World} {t e : TypeId} {i : Nat} {es : List AV} {xv : Value} {K : AV → Store → Prop} (hr : R E Γ σ w) (hx0 : VR Γ w (.lg i es) xv) (hi : σ.get i = some (.log e es.length)) (hne : es ≠ []) (hsz1 : tsz E.P e = 1)
    (ht : E.P.underlying t = some (.slice e)) (he : E.P.underlying e = some (.int .u8)) (h : K (.lg i es) σ) : Up E Γ w K ((do pure (.value (← convert t t xv)) : Sem Next).run E.P w) := by
  obtain ⟨l, hl, ho, hlt⟩ := hr.loc hi
  have hx1 := hx0
  cases hx0 with
  | lg _ _ _ g1 g2 g3 =>
  cases g2 with
  | rs _ _ _ _ a cap hin hlc hat =>
  simp only [ObjRel] at ho
  obtain ⟨o1, o2, o3, o4, o5⟩ := ho
  have hz : l.sz = 1 := by rw [o2]; exact hsz1
  cases hb : l.blk with
  | none =>
    simp only [hb] at o5
    exact absurd (List.eq_nil_of_length_eq_zero o5.1) hne
  | some b =>
    simp only [hb] at o5
    obtain ⟨xs, fr, q1, q2, q3⟩ := o5
    obtain ⟨_, hat⟩ := hat l hl
    have hrs := hat o1
    unfold Loc.rsAt at hrs
    rw [hb] at hrs
    have ha : a = some ⟨b, 0, none⟩ := hrs.2.2 rfl
    subst ha
    have hblt := hr.blk_lt ⟨i, l, hl, hb⟩
    have hsh : w.shape? b = some (e, xs.size) := by unfold World.shape?; rw [q1]
    have hrun : (convert t t (.slice (some ⟨b, 0, none⟩) es.length cap)).run E.P w = .ok (.slice (some ⟨b, 0, none⟩) es.length cap) (w.freeze ⟨b, xs.size, none⟩ 1) := by
      simp [convert, run_underlying ht, run_underlying he, markStringish, hsh]
    have hheap : ∀ k, (w.freeze ⟨b, xs.size, none⟩ 1).heap[k]? = if k = b then some (.cells xs e (if fr.1 == fr.2 then (xs.size, xs.size + 1) else (min fr.1 xs.size, max fr.2 (xs.size + 1)))) else w.heap[k]? := by
      intro k
      unfold World.freeze
      rw [if_neg (by decide)]
      simp only [Array.getElem?_modify]
      split
      · rename_i e; subst e; rw [q1]; simp
      · rename_i e; rw [if_neg (fun e' => e e'.symm)]
    have hsz : (w.freeze ⟨b, xs.size, none⟩ 1).heap.size = w.heap.size := by
      unfold World.freeze
      rw [if_neg (by decide)]
      simp
    have hx : ExtN Γ.next Γ w Γ (w.freeze ⟨b, xs.size, none⟩ 1) := by
      refine ⟨by unfold World.freeze; rw [if_neg (by decide)], by unfold World.freeze; rw [if_neg (by decide)], by unfold World.freeze; rw [if_neg (by decide)], Nat.le_of_eq hsz.symm, fun k hk ho => ⟨?_, ho⟩, fun k m hk hf => ⟨fun v hv => ?_, hf⟩,
        fun i l' _ hi => ⟨l', hi, Nat.le_refl _, fun _ => rfl⟩, Nat.le_refl _, Nat.le_refl _, rfl⟩
      · rw [hheap k, if_neg (by rintro rfl; exact ho ⟨i, l, hl, hb⟩)]
        exact .inl rfl
      · have hh := hheap k
        by_cases e0 : k = b
        · subst e0
          rw [if_pos rfl] at hh
          simp only [World.cell?, q1] at hv
          simp only [World.cell?, hh]
          exact hv
        · rw [if_neg e0] at hh
          simp only [World.cell?] at hv
          simp only [World.cell?, hh]
          exact hv
    have hR : R E Γ σ (w.freeze ⟨b, xs.size, none⟩ 1) := by
      refine ⟨hr.next, hr.dom, hr.bnd, hr.inj, fun j oj lj hoj hlj => ?_, fun g cs hg => (hr.glob g cs hg).ext hx, hr.gbel, by rw [hsz]; exact hr.base, hr.lims⟩
      by_cases hj : j = i
      · subst hj
        rw [hi] at hoj
        cases hoj
        rw [hl] at hlj
        cases hlj
        simp only [ObjRel]
        refine ⟨o1, o2, o3, o4, ?_⟩
        simp only [hb]
        have hh := hheap b
        rw [if_pos rfl] at hh
        refine ⟨xs, _, hh, .inr ⟨?_, hz⟩, q3⟩
        split
        · exact Nat.le_refl _
        · rename_i hne'
          rcases q2 with q2 | q2
          · rw [q2] at hne'; simp at hne'
          · show xs.size ≤ min fr.1 xs.size
            omega
      · exact (hr.objs j oj lj hoj hlj).ext hx fun b' hb' => by
          rw [hheap b', if_neg]
          rintro rfl
          exact hj (hr.inj j i lj l b' hlj hl hb' hb)
    exact Up.value hrun ⟨Γ, _, σ, hx, hR, hx1.ext hx, h⟩
def aConv2 (E : Env) (own : Nat) (s d : TypeId) (x : AV) (σ : Store) (K : AV → Store → Prop) : Prop :=
  match x with
  | .lg i es => if own = 2 then s = d ∧ (match tk E.P d with
      | .slc e => tk E.P e = .int .u8 ∧ tsz E.P e = 1 ∧ es ≠ [] ∧ σ.get i = some (.log e es.length) ∧ K (.lg i es) σ
      | _ => False) else aConv E own s d (AV.lg i es).rd σ K
  | x => aConv E own s d x.rd σ K
theorem aConv2_ok {E : Env} {Γ : Ctx} {σ : Store} {w : World} {own : Nat} {s d : TypeId} {x : AV} {xv : Value} {K : AV → Store → Prop} (hr : R E Γ σ w) (hx : VR Γ w x xv) (h : aConv2 E own s d x σ K) : Up E Γ w K ((do pure (.value (← convert s d xv)) : Sem Next).run E.P w) := by
  unfold aConv2 at h
  split at h
  · split at h
    · obtain ⟨rfl, h⟩ := h
      split at h
      · rename_i e hd
        obtain ⟨h1, h2, h3, h4, h5⟩ := h
        exact lg_conv hr hx h4 h3 h2 (tk_slc hd) (tk_int h1) h5
      · exact h.elim
    · exact aConv_ok hr hx.rd h
  · exact aConv_ok hr hx.rd h

/-- The operations on maps, iterators and interface values. -/
def opX (E : Env) (op : Op) (args : List AV) (σ : Store) (K : AV → Store → Prop) : Prop :=
  match op, args with
  | .range t _, [x] => aRange E t x σ K
  | .next _ str, [x] => aNext x str σ K
  | .lookup t _ _ ok, [x, k] => aLook E t x k ok σ K
  | .mapUpdate t _ _ _, [m, k, x] => aMapPut E t m k x σ K
  | .insert t _ _ _, [m, k, x] => aMapPut E t m k x σ K
  | .makeMap t none, [] => K (.mp σ.next) (σ.alloc (.map [] [] 0))
  | .makeMap t (some _), [.c (.int _ _)] => (tk E.P t).isMap = true ∧ K (.mp σ.next) (σ.alloc (.map [] [] 0))
  | .mapEntry t _ _, [m, k] => aMapEntry E t m k σ K
  | .entryStore _ _ _ _, [m, s, x] => aEntryStore m s x σ K
  | .typeAssert _ _ t ok, [x] => aAssert E x t ok fun a => K a σ
  | _, _ => False
theorem opX_ok {E : Env} {Γ : Ctx} {σ : Store} {w : World} {op : Op} {dst : Option Tmp} {ty : TypeId} {pos : String} {after : Array Edge} {guard : Option (Nat × Bool)} {f : Nat → AV} {ρ : Operand → Value} {K : AV → Store → Prop} (hr : R E Γ σ w)
    (hv : VRs Γ w (op.operands.toList.map (aeval E.G f)) (op.operands.toList.map ρ)) (h : opX E op (op.operands.toList.map (aeval E.G f)) σ K) : Up E Γ w K ((execOp ρ ⟨dst, op, ty, pos, after, guard⟩).run E.P w) := by
  obtain ⟨hlen, hv⟩ := hv
  cases op <;> first | exact h.elim | skip
  case range t x => exact aRange_ok hr (hv 0 _ _ rfl rfl) h
  case next x str => exact aNext_ok hr (hv 0 _ _ rfl rfl) h
  case lookup t x k ok => exact aLook_ok hr (hv 0 _ _ rfl rfl) (hv 1 _ _ rfl rfl) h
  case mapUpdate t m k x => exact aMapPut_ok hr (hv 0 _ _ rfl rfl) (hv 1 _ _ rfl rfl) (hv 2 _ _ rfl rfl) h
  case insert t m k x => exact aMapPut_ok hr (hv 0 _ _ rfl rfl) (hv 1 _ _ rfl rfl) (hv 2 _ _ rfl rfl) h
  case mapEntry t m k => exact aMapEntry_ok hr (hv 0 _ _ rfl rfl) (hv 1 _ _ rfl rfl) h
  case entryStore t m s x => exact aEntryStore_ok hr (hv 0 _ _ rfl rfl) (hv 1 _ _ rfl rfl) (hv 2 _ _ rfl rfl) h
  case typeAssert x xt t ok => exact aAssert_ok hr (hv 0 _ _ rfl rfl) h
  case makeMap t r =>
    obtain ⟨k1, k2⟩ := hr.make (o' := .map [] [] 0) (ob := .map #[] 0) rfl fun hx hh => ⟨rfl, _, #[], rfl, hh, rfl, by simp, rfl⟩
    cases r with
    | none =>
      refine Up.value (v := .map (some w.heap.size)) (w' := w.alloc (.map #[] 0)) ?_ ⟨_, _, _, k1, k2, (VR.made hr _).2, h⟩
      simp [Instr.makeMap, Result.andThen]
    | some y =>
      have hy := hv 0 _ _ rfl rfl
      have h' : ∃ k n, aeval E.G f y = .c (.int k n) ∧ (tk E.P t).isMap = true ∧ K (.mp σ.next) (σ.alloc (.map [] [] 0)) := by
        have e : (Op.makeMap t (some y)).operands.toList = [y] := rfl
        rw [e] at h
        simp only [List.map_cons, List.map_nil] at h
        generalize aeval E.G f y = a at h ⊢
        cases a <;> first | exact h.elim | skip
        rename_i v
        cases v <;> first | exact h.elim | skip
        exact ⟨_, _, rfl, h⟩
      obtain ⟨k, n, e, ht, h⟩ := h'
      rw [e] at hy
      have hy' : ρ y = .int k n := by generalize ρ y = v at hy; cases hy; rfl
      obtain ⟨kt, et, hu⟩ := isMap_some ht
      refine Up.value (v := .map (some w.heap.size)) (w' := w.alloc (.map #[] 0)) ?_ ⟨_, _, _, k1, k2, (VR.made hr _).2, h⟩
      simp [Instr.makeMap, Result.andThen, run_underlying hu, asInt, asIntOf, hy']
theorem opX_det {E : Env} {op : Op} {args : List AV} {σ : Store} {K : AV → Store → Prop} (hb : ∀ it s, op ≠ .next it s) (h : opX E op args σ K) : ∃ a σ', opX E op args σ (fun x y => x = a ∧ y = σ') ∧ K a σ' := by
  unfold opX at h ⊢
  split at h
  · simp only [aRange] at h ⊢
    split at h
    · exact ⟨_, _, ⟨h.1, rfl, rfl⟩, h.2⟩
    · exact ⟨_, _, ⟨h.1, rfl, rfl⟩, h.2⟩
    · obtain ⟨h1, h⟩ := h
      split at h
      · rename_i hm
        try simp only [hm]
        exact ⟨_, _, ⟨h1, rfl, rfl⟩, h⟩
      · exact h.elim
    · exact h.elim
  · exact absurd rfl (hb _ _)
  · simp only [aLook] at h ⊢
    split at h
    · rename_i ht
      try simp only [ht]
      obtain ⟨h1, h⟩ := h
      split at h
      · rename_i hz
        try simp only [hz]
        split at h
        · exact ⟨_, _, ⟨h1, rfl, rfl⟩, h⟩
        · split at h
          · rename_i hm
            try simp only [hm]
            obtain ⟨h2, h⟩ := h
            split at h
            · rename_i hp
              try simp only [hp]
              exact ⟨_, _, ⟨h1, h2, rfl, rfl⟩, h⟩
            · rename_i hp
              try simp only [hp]
              exact ⟨_, _, ⟨h1, h2, rfl, rfl⟩, h⟩
          · exact h.elim
        · exact h.elim
      · exact h.elim
    · exact h.elim
  · exact aMapPut_det h
  · exact aMapPut_det h
  · exact ⟨_, _, ⟨rfl, rfl⟩, h⟩
  · exact ⟨_, _, ⟨h.1, rfl, rfl⟩, h.2⟩
  · simp only [aMapEntry] at h ⊢
    split at h
    · rename_i ht
      try simp only [ht]
      obtain ⟨h1, h⟩ := h
      split at h
      · rename_i hi hz
        try simp only [hi, hz]
        obtain ⟨h2, h⟩ := h
        split at h
        · rename_i hp
          try simp only [hp]
          exact ⟨_, _, ⟨h1, h2, rfl, rfl⟩, h⟩
        · rename_i hp
          try simp only [hp]
          exact ⟨_, _, ⟨h1, h2, rfl, rfl⟩, h⟩
      · exact h.elim
    · exact h.elim
  · simp only [aEntryStore] at h ⊢
    split at h
    · split at h
      · rename_i hi
        try simp only [hi]
        split at h
        · rename_i hj
          try simp only [hj]
          exact ⟨_, _, ⟨rfl, rfl⟩, h⟩
        · exact h.elim
      · exact h.elim
    · exact h.elim
  · simp only [aAssert] at h ⊢
    obtain ⟨h1, h2, h⟩ := h
    split at h
    · split at h
      · rename_i he
        try simp only [if_pos he]
        exact ⟨_, _, ⟨h1, h2, rfl, rfl⟩, h⟩
      · rename_i he
        try simp only [if_neg he]
        obtain ⟨h3, h⟩ := h
        split at h
        · rename_i hz
          try simp only [hz]
          exact ⟨_, _, ⟨h1, h2, h3, rfl, rfl⟩, h⟩
        · exact h.elim
    · obtain ⟨h3, h⟩ := h
      split at h
      · rename_i hz
        try simp only [hz]
        exact ⟨_, _, ⟨h1, h2, h3, rfl, rfl⟩, h⟩
      · exact h.elim
    · exact h.elim
  · exact h.elim
end Go.AW
