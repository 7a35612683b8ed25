/- Maps over heaps: entries as a plain list of keys, values and stamps; look-up, store, delete, length. -/
import Derived.Test.YtlibanaihidlhaaGreatRvOp
namespace Go.Rv
set_option linter.unusedVariables false
set_option linter.unusedSectionVars false
set_option linter.unusedSimpArgs false

theorem ba_beq (a b : ByteArray) : (a == b) = decide (a = b) := by
  have : (a == b) = (a.data == b.data) := by
    show ByteArray.beq a b = _
    unfold ByteArray.beq
    rfl
  rw [this, Bool.eq_iff_iff]
  simp [ByteArray.ext_iff]

/-- Entries: key, value, stamp. -/
abbrev Ents (κ : Type) := List (κ × Value × Nat)

def encE {κ : Type} (kf : κ → Value) (es : Ents κ) : Array MapEntry := (es.map fun e => ({ key := kf e.1, val := e.2.1, born := e.2.2 } : MapEntry)).toArray

variable {κ : Type} [DecidableEq κ]

def Ents.look (es : Ents κ) (k : κ) : Option Value := (es.find? fun e => decide (e.1 = k)).map (·.2.1)

/-- A store: at the key's first entry, or behind all. -/
def Ents.put : Ents κ → κ → Value → Nat → Ents κ
  | [], k, v, c => [(k, v, c)]
  | e :: es, k, v, c => if e.1 = k then (k, v, e.2.2) :: es else e :: Ents.put es k v c

def Ents.has (es : Ents κ) (k : κ) : Bool := es.any fun e => decide (e.1 = k)

def Ents.del : Ents κ → κ → Ents κ
  | [], _ => []
  | e :: es, k => if e.1 = k then es else e :: Ents.del es k

def Ents.ix (es : Ents κ) (k : κ) : Nat → Option (Nat × Value)
  | i => match es with
    | [] => none
    | e :: es => if e.1 = k then some (i, e.2.1) else Ents.ix es k (i + 1)

theorem Ents.ix_look : ∀ (es : Ents κ) (k : κ) (i : Nat), (es.ix k i).map (·.2) = es.look k
  | [], k, i => rfl
  | e :: es, k, i => by
    unfold Ents.ix Ents.look
    by_cases h : e.1 = k
    · simp [h]
    · simp only [h, if_false, List.find?_cons]
      simpa [Ents.look] using Ents.ix_look es k (i + 1)

theorem Ents.ix_has : ∀ (es : Ents κ) (k : κ) (i : Nat), (es.ix k i).isSome = es.has k
  | [], k, i => rfl
  | e :: es, k, i => by
    unfold Ents.ix Ents.has
    by_cases h : e.1 = k
    · simp [h]
    · simp only [h, if_false, List.any_cons]
      simpa [Ents.has] using Ents.ix_has es k (i + 1)

theorem Ents.put_of_ix : ∀ (es : Ents κ) (k : κ) (v : Value) (c i : Nat) (j : Nat) (x : Value), es.ix k i = some (j, x) →
    ∃ p, j = i + p ∧ es.put k v c = es.modify p (fun e => (k, v, e.2.2)) ∧ (es[p]?).map (·.1) = some k
  | [], k, v, c, i, j, x, h => by simp [Ents.ix] at h
  | e :: es, k, v, c, i, j, x, h => by
    unfold Ents.ix at h
    unfold Ents.put
    by_cases he : e.1 = k
    · simp only [he, if_true, Option.some.injEq, Prod.mk.injEq] at h
      exact ⟨0, by omega, by simp [he], by simp [he]⟩
    · simp only [he, if_false] at h
      obtain ⟨p, h1, h2, h3⟩ := Ents.put_of_ix es k v c (i + 1) j x h
      exact ⟨p + 1, by omega, by simp [he, h2], by simpa using h3⟩

theorem Ents.put_of_none : ∀ (es : Ents κ) (k : κ) (v : Value) (c i : Nat), es.ix k i = none → es.put k v c = es ++ [(k, v, c)]
  | [], k, v, c, i, h => rfl
  | e :: es, k, v, c, i, h => by
    unfold Ents.ix at h
    unfold Ents.put
    by_cases he : e.1 = k
    · simp [he] at h
    · simp only [he, if_false] at h ⊢
      rw [Ents.put_of_none es k v c (i + 1) h]; rfl

theorem Ents.del_of_ix : ∀ (es : Ents κ) (k : κ) (i : Nat) (j : Nat) (x : Value), es.ix k i = some (j, x) →
    ∃ p, j = i + p ∧ p < es.length ∧ es.del k = es.eraseIdx p
  | [], k, i, j, x, h => by simp [Ents.ix] at h
  | e :: es, k, i, j, x, h => by
    unfold Ents.ix at h
    unfold Ents.del
    by_cases he : e.1 = k
    · simp only [he, if_true, Option.some.injEq, Prod.mk.injEq] at h
      exact ⟨0, by omega, by simp, by simp [he]⟩
    · simp only [he, if_false] at h
      obtain ⟨p, h1, h2, h3⟩ := Ents.del_of_ix es k (i + 1) j x h
      exact ⟨p + 1, by omega, by simpa using h2, by simp [he, h3]⟩

theorem Ents.del_of_none : ∀ (es : Ents κ) (k : κ) (i : Nat), es.ix k i = none → es.del k = es
  | [], k, i, h => rfl
  | e :: es, k, i, h => by
    unfold Ents.ix at h
    unfold Ents.del
    by_cases he : e.1 = k
    · simp [he] at h
    · simp only [he, if_false] at h ⊢
      rw [Ents.del_of_none es k (i + 1) h]

/-- A key's type and how its values are laid: all that a map's operations ask of a key. -/
structure KeyOK (P : Program) (t : TypeId) (kf : κ → Value) : Prop where
  check : ∀ (b : Bool) (k : κ) (h : Heap) (K : Unit → Heap → Prop), K () h → hw P (Instr.checkKey b 10000 t (kf k)) h K
  find : ∀ (es : Ents κ) (k : κ) (h : Heap) (K : Option (Nat × Value) → Heap → Prop), K (es.ix k 0) h → hw P (Instr.findKey t (kf k) (encE kf es).toList) h K
  same : ∀ k : κ, Instr.sameBits 10000 (kf k) (kf k) = true

theorem encE_toList (kf : κ → Value) (es : Ents κ) : (encE kf es).toList = es.map fun e => ({ key := kf e.1, val := e.2.1, born := e.2.2 } : MapEntry) := by simp [encE]

theorem intKey {P : Program} {t : TypeId} {q : IntKind} (e : P.underlying t = some (.int q)) : KeyOK P t (Value.int q) where
  check b k h K x := by
    show hw P (Instr.checkKey b (9999 + 1) t (.int q k)) h K
    unfold Instr.checkKey
    exact hw_bind' (hw_underlying e x)
  find es k h K x := by
    unfold Instr.findKey
    refine hw_bind' (hw_underlying e ?_)
    have : ∀ (es : Ents Int) (i : Nat), Instr.findNow (.int q) (.int q k) (encE (Value.int q) es).toList i = some (es.ix k i) := by
      intro es
      induction es with
      | nil => intro i; simp [encE, Instr.findNow, Ents.ix]
      | cons a es ih =>
        intro i
        have ih' := ih (i + 1)
        rw [encE_toList] at ih' ⊢
        simp only [List.map_cons, Instr.findNow, Instr.sameNow, if_true]
        by_cases hh : a.1 = k
        · have : (k == a.1) = true := by simp [hh]
          simp [this, Ents.ix, hh]
        · have h2 : (k == a.1) = false := by simpa using fun e => hh e.symm
          simp only [h2, Ents.ix, hh, if_false]; exact ih'
    rw [this es 0]
    exact x
  same k := by
    show Instr.sameBits (9999 + 1) _ _ = true
    simp [Instr.sameBits]

theorem strKey {P : Program} {t : TypeId} (e : P.underlying t = some .string) : KeyOK P t Value.string where
  check b k h K x := by
    show hw P (Instr.checkKey b (9999 + 1) t (.string k)) h K
    unfold Instr.checkKey
    exact hw_bind' (hw_underlying e x)
  find es k h K x := by
    unfold Instr.findKey
    refine hw_bind' (hw_underlying e ?_)
    have : ∀ (es : Ents ByteArray) (i : Nat), Instr.findNow .string (.string k) (encE Value.string es).toList i = some (es.ix k i) := by
      intro es
      induction es with
      | nil => intro i; simp [encE, Instr.findNow, Ents.ix]
      | cons a es ih =>
        intro i
        have ih' := ih (i + 1)
        rw [encE_toList] at ih' ⊢
        simp only [List.map_cons, Instr.findNow, Instr.sameNow]
        by_cases hh : a.1 = k
        · have : (k == a.1) = true := by rw [ba_beq]; simp [hh]
          rw [hh] at this
          simp only [this, Ents.ix, hh, if_true]
        · have h2 : (k == a.1) = false := by rw [ba_beq]; exact decide_eq_false fun e => hh e.symm
          simp only [h2, Ents.ix, hh, if_false]; exact ih'
    rw [this es 0]
    exact x
  same k := by
    show Instr.sameBits (9999 + 1) _ _ = true
    simp [Instr.sameBits, ba_beq]

/-- Three whole numbers, as one key. -/
def trip (k : Int × Int × Int) : Value := .agg #[.int .i64 k.1, .int .i64 k.2.1, .int .i64 k.2.2]

theorem hw_equal_trip {P : Program} {t e : TypeId} {i : TypeInfo} (e1 : P.underlying t = some (.array 3 e)) (e2 : P.underlying e = some (.int .i64)) (e3 : P.info? e = some i) (e4 : i.size = 1)
    (j k : Int × Int × Int) (h : Heap) (K : Bool → Heap → Prop) (x : K (decide (k = j)) h) : hw P (Op.equal t (trip j) (trip k)) h K := by
  have ha : aggB P e = false := by simp [aggB, e2]
  have hpart : ∀ (a b c : Value) (n : Nat) (v : Value) (K : Value → Heap → Prop), #[a, b, c][n]? = some v → K v h → hw P (part e #[a, b, c] n) h K := by
    intro a b c n v K hv x
    unfold part
    refine hw_bind' (hw_isAgg e2 ?_)
    rw [ha]
    simp only [Bool.false_eq_true, if_false, hv]
    exact x
  have hq : ∀ (m n : Int) (K : Bool → Heap → Prop), K (m == n) h → hw P (Op.equalIn 9999 e (.int .i64 m) (.int .i64 n)) h K := by
    intro m n K x
    show hw P (Op.equalIn (9998 + 1) e _ _) h K
    unfold Op.equalIn
    refine hw_bind' (hw_underlying e2 ?_)
    simp only [if_true]
    exact x
  show hw P (Op.equalIn (9999 + 1) t (trip j) (trip k)) h K
  unfold Op.equalIn trip
  refine hw_bind' (hw_underlying e1 ?_)
  simp only []
  refine hw_bind' (hw_sizeOf e3 ?_)
  rw [e4]
  obtain ⟨j1, j2, j3⟩ := j
  obtain ⟨k1, k2, k3⟩ := k
  simp only [Prod.mk.injEq] at x ⊢
  refine hw_bind' ?_
  simp only [Std.Legacy.Range.forIn_eq_forIn_range', Std.Legacy.Range.size, Nat.sub_zero, Nat.add_sub_cancel, Nat.div_one, List.range'_succ, List.range'_zero, List.forIn_cons, List.forIn_nil]
  have step : ∀ (n : Nat) (m k : Int) (K : ForInStep (Option Bool × Unit) → Heap → Prop), #[Value.int IntKind.i64 j1, .int .i64 j2, .int .i64 j3][n]? = some (.int .i64 m) →
      #[Value.int IntKind.i64 k1, .int .i64 k2, .int .i64 k3][n]? = some (.int .i64 k) → K (if m = k then .yield (none, ()) else .done (some false, ())) h →
      hw P (do
        let a ← part e #[Value.int IntKind.i64 j1, .int .i64 j2, .int .i64 j3] n
        let b ← part e #[Value.int IntKind.i64 k1, .int .i64 k2, .int .i64 k3] n
        let c ← Op.equalIn 9999 e a b
        if (!c) = true then pure (ForInStep.done (some false, ())) else pure (ForInStep.yield (none, ()))) h K := by
    intro n m k K h1 h2 x
    refine hw_bind' (hpart _ _ _ _ _ _ h1 ?_)
    refine hw_bind' (hpart _ _ _ _ _ _ h2 ?_)
    refine hw_bind' (hq _ _ _ ?_)
    by_cases c : m = k
    · simp only [c, beq_self_eq_true, Bool.not_true, Bool.false_eq_true, if_false, if_true] at x ⊢; exact x
    · have : (m == k) = false := by simpa using c
      simp only [this, c, Bool.not_false, if_false, if_true] at x ⊢; exact x
  refine hw_bind' (step _ _ _ _ rfl rfl ?_)
  by_cases c1 : j1 = k1
  · rw [if_pos c1]
    show hw P (_ >>= _) h _
    refine hw_bind' (step _ _ _ _ rfl rfl ?_)
    by_cases c2 : j2 = k2
    · rw [if_pos c2]
      show hw P (_ >>= _) h _
      refine hw_bind' (step _ _ _ _ rfl rfl ?_)
      by_cases c3 : j3 = k3
      · rw [if_pos c3]
        show K true h
        simpa [c1, c2, c3] using x
      · rw [if_neg c3]
        show K false h
        have : ¬ k3 = j3 := fun e => c3 e.symm
        simpa [this] using x
    · rw [if_neg c2]
      show K false h
      have : ¬ k2 = j2 := fun e => c2 e.symm
      simpa [this] using x
  · rw [if_neg c1]
    show K false h
    have : ¬ k1 = j1 := fun e => c1 e.symm
    simpa [this] using x

theorem tripKey {P : Program} {t e : TypeId} {i : TypeInfo} (e1 : P.underlying t = some (.array 3 e)) (e2 : P.underlying e = some (.int .i64)) (e3 : P.info? e = some i) (e4 : i.size = 1) : KeyOK P t trip where
  check b k h K x := by
    have ha : aggB P e = false := by simp [aggB, e2]
    have step : ∀ (n : Nat) (m : Int) (K : ForInStep PUnit → Heap → Prop), (#[Value.int .i64 k.1, .int .i64 k.2.1, .int .i64 k.2.2] : Array Value)[n]? = some (.int .i64 m) → K (.yield PUnit.unit) h →
        hw P (do let s ← Go.sizeOf e; let v ← part e #[Value.int .i64 k.1, .int .i64 k.2.1, .int .i64 k.2.2] (n * s); Instr.checkKey b 9999 e v; pure (ForInStep.yield PUnit.unit)) h K := by
      intro n m K h1 x
      refine hw_bind' (hw_sizeOf e3 ?_)
      rw [e4, Nat.mul_one]
      refine hw_bind' ?_
      unfold part
      refine hw_bind' (hw_isAgg e2 ?_)
      rw [ha]
      simp only [Bool.false_eq_true, if_false, h1]
      show hw P (Instr.checkKey b (9998 + 1) e (.int .i64 m) >>= fun _ => pure (ForInStep.yield PUnit.unit)) h K
      refine hw_bind' ?_
      unfold Instr.checkKey
      exact hw_bind' (hw_underlying e2 x)
    show hw P (Instr.checkKey b (9999 + 1) t (trip k)) h K
    unfold Instr.checkKey trip
    refine hw_bind' (hw_underlying e1 ?_)
    simp only []
    simp only [Std.Legacy.Range.forIn_eq_forIn_range', Std.Legacy.Range.size, Nat.sub_zero, Nat.add_sub_cancel, Nat.div_one, List.range'_succ, List.range'_zero, List.forIn_cons, List.forIn_nil]
    refine hw_bind' (hw_bind' (step _ _ _ rfl ?_))
    show hw P (_ >>= _) h _
    refine hw_bind' (step _ _ _ rfl ?_)
    show hw P (_ >>= _) h _
    refine hw_bind' (step _ _ _ rfl ?_)
    exact x
  find es k h K x := by
    unfold Instr.findKey
    refine hw_bind' (hw_underlying e1 ?_)
    have key : ∀ (es : Ents (Int × Int × Int)) (i : Nat) (K : Option (Nat × Value) → Heap → Prop), K (es.ix k i) h → hw P (Instr.findAsking t (trip k) (encE trip es).toList i) h K := by
      intro es
      induction es with
      | nil => intro i K x; exact x
      | cons a es ih =>
        intro i K x
        have ih' := ih (i + 1) K
        rw [encE_toList] at ih' ⊢
        simp only [List.map_cons, Instr.findAsking]
        refine hw_bind' (hw_equal_trip e1 e2 e3 e4 _ _ _ _ ?_)
        unfold Ents.ix at x
        by_cases hh : a.1 = k
        · simp only [hh, if_true, decide_true] at x ⊢; exact x
        · simp only [hh, if_false, decide_false, Bool.false_eq_true] at x ⊢; exact ih' x
    cases es with
    | nil => exact x
    | cons a es =>
      have : Instr.findNow (.array 3 e) (trip k) (encE trip (a :: es)).toList 0 = none := by
        rw [encE_toList]; rfl
      rw [this]
      exact key _ _ _ x
  same k := by
    show Instr.sameBits (9999 + 1) _ _ = true
    unfold trip Instr.sameBits
    simp only [Array.size, List.length, beq_self_eq_true, Bool.true_and, List.zip_cons_cons, List.zip_nil_right, List.all_cons, List.all_nil, Bool.and_true]
    show (Instr.sameBits (9998 + 1) _ _ && (Instr.sameBits (9998 + 1) _ _ && Instr.sameBits (9998 + 1) _ _)) = true
    simp [Instr.sameBits]

/-- The map in a block. -/
def MapAt (kf : κ → Value) (h : Heap) (r : Nat) (es : Ents κ) (c : Nat) : Prop := h[r]? = some (.map (encE kf es) c)

theorem MapAt.noCells {kf : κ → Value} {h : Heap} {r : Nat} {es : Ents κ} {c : Nat} (m : MapAt kf h r es c) : NoCells (.map (encE kf es) c) := by intro _ _ _ e; cases e

/-- A look-up. -/
def lkP (kf : κ → Value) (h : Heap) (m : Option Nat) (k : κ) (zero : Value) (K : Value → Bool → Prop) : Prop :=
  match m with
  | none => K zero false
  | some r => ∃ es c, MapAt kf h r es c ∧ K ((es.look k).getD zero) (es.has k)

/-- A store. -/
def mputP (kf : κ → Value) (h : Heap) (m : Option Nat) (k : κ) (v : Value) (K : Heap → Prop) : Prop :=
  ∃ r es c, m = some r ∧ MapAt kf h r es c ∧ K (h.setIfInBounds r (.map (encE kf (es.put k v c)) (if es.has k then c else c + 1)))

/-- A delete. -/
def mdelP (kf : κ → Value) (h : Heap) (m : Option Nat) (k : κ) (K : Heap → Prop) : Prop :=
  match m with
  | none => K h
  | some r => ∃ es c, MapAt kf h r es c ∧ K (h.setIfInBounds r (.map (encE kf (es.del k)) c))

section ops
variable {P : Program} {h : Heap} {t kt et : TypeId} {kf : κ → Value}

theorem hw_getObj {r : Nat} {o : Obj} {K : Obj → Heap → Prop} (e : h[r]? = some o) (n : NoCells o) (x : K o h) : hw P (getObj r) h K := ⟨o, e, n, x⟩
theorem hw_setObj {r : Nat} {o o' : Obj} {K : Unit → Heap → Prop} (e : h[r]? = some o') (n : NoCells o') (x : K () (h.setIfInBounds r o)) : hw P (setObj r o) h K := ⟨⟨o', e, n⟩, x⟩
theorem hw_zero {t : TypeId} {i : TypeInfo} {z : Value} {K : Value → Heap → Prop} (e : P.info? t = some i) (ez : i.zero = some z) (x : K z h) : hw P (zeroValue t) h K := by
  unfold zeroValue
  refine hw_bind' (hw_typeInfo e ?_)
  rw [ez]; exact x

theorem hw_lookup {i : TypeInfo} {z : Value} {m : Option Nat} {k : κ} {ok : Bool} {K : Value → Heap → Prop} (e : P.underlying t = some (.map kt et)) (L : KeyOK P kt kf)
    (ei : P.info? et = some i) (ez : i.zero = some z) (x : lkP kf h m k z fun v b => K (if ok then .tuple #[v, .bool b] else v) h) : hw P (Instr.lookup t (.map m) (kf k) ok) h K := by
  unfold Instr.lookup
  refine hw_bind' (hw_underlying e ?_)
  simp only []
  cases m with
  | none =>
    refine hw_bind' ?_
    show hw P (Instr.checkKey _ 10000 kt (kf k) >>= _) h K
    refine hw_bind' (L.check _ _ _ _ ?_)
    show hw P (Instr.findKey kt (kf k) [] >>= _) h K
    refine hw_bind' ?_
    refine L.find ([] : Ents κ) k h _ ?_
    refine hw_bind' (hw_zero ei ez ?_)
    exact x
  | some r =>
    obtain ⟨es, c, hm, x⟩ := x
    refine hw_bind' (hw_bind' (hw_getObj hm hm.noCells ?_))
    show hw P (Instr.checkKey _ 10000 kt (kf k) >>= _) h K
    refine hw_bind' (L.check _ _ _ _ ?_)
    refine hw_bind' (L.find _ _ _ _ ?_)
    have h1 := es.ix_look k 0
    have h2 := es.ix_has k 0
    cases hx : es.ix k 0 with
    | none =>
      rw [hx] at h1 h2
      refine hw_bind' (hw_zero ei ez ?_)
      have y : K (if ok = true then Value.tuple #[z, Value.bool false] else z) h := by simpa [← h1, ← h2] using x
      exact y
    | some p =>
      rw [hx] at h1 h2
      simp only [Option.map_some, Option.isSome_some] at h1 h2
      refine hw_bind' ?_
      rw [← h1, ← h2] at x
      exact x

theorem encE_push (es : Ents κ) (k : κ) (v : Value) (c : Nat) : (encE kf es).push { key := kf k, val := v, born := c } = encE kf (es ++ [(k, v, c)]) := by simp [encE]

theorem hw_mapUpdate {m : Option Nat} {k : κ} {v : Value} {K : Unit → Heap → Prop} (e : P.underlying t = some (.map kt et)) (L : KeyOK P kt kf)
    (x : mputP kf h m k v fun h' => K () h') : hw P (Instr.mapUpdate t (.map m) (kf k) v) h K := by
  obtain ⟨r, es, c, rfl, hm, x⟩ := x
  unfold Instr.mapUpdate
  refine hw_bind' (hw_underlying e ?_)
  simp only []
  refine hw_bind' (hw_getObj hm hm.noCells ?_)
  refine hw_bind' (L.check _ _ _ _ ?_)
  refine hw_bind' (L.find _ _ _ _ ?_)
  have h2 := es.ix_has k 0
  cases hx : es.ix k 0 with
  | none =>
    rw [hx] at h2
    simp only [Option.isSome_none] at h2
    refine hw_setObj hm hm.noCells ?_
    rw [encE_push]
    rw [← h2, Ents.put_of_none _ _ _ _ _ hx] at x
    simpa using x
  | some p =>
    obtain ⟨j, w⟩ := p
    rw [hx] at h2
    simp only [Option.isSome_some] at h2
    obtain ⟨q, hj, hput, hk⟩ := Ents.put_of_ix _ _ v c _ _ _ hx
    obtain rfl : j = q := by omega
    have hkey : (((encE kf es)[j]?).map (·.key)).getD (kf k) = kf k := by
      cases hq : es[j]? with
      | none => simp [hq] at hk
      | some a => simp only [hq, Option.map_some, Option.some.injEq] at hk; simp [encE, hq, hk]
    show hw P (Instr.keyThatStays _ _ >>= _) h K
    refine hw_bind' ?_
    rw [hkey]
    unfold Instr.keyThatStays
    rw [if_pos (L.same k)]
    refine hw_setObj hm hm.noCells ?_
    rw [← h2, hput] at x
    have : (encE kf es).modify j (fun e => { e with key := kf k, val := v }) = encE kf (es.modify j fun e => (k, v, e.2.2)) := by
      apply Array.ext'
      simp only [encE, Array.toList_modify]
      apply List.ext_getElem?
      intro n
      simp only [List.getElem?_modify, List.getElem?_map]
      cases es[n]? <;> simp <;> split <;> rfl
    rw [this]
    simpa using x

theorem hw_delete {m : Option Nat} {k : κ} {a2 ty : TypeId} {K : Value → Heap → Prop} (e : P.underlying t = some (.map kt et)) (L : KeyOK P kt kf)
    (x : mdelP kf h m k fun h' => K (.tuple #[]) h') : hw P (Builtin.delete_ #[t, a2] ty #[.map m, kf k]) h K := by
  unfold Builtin.delete_
  show hw P (underlying t >>= _) h K
  refine hw_bind' (hw_underlying e ?_)
  simp only []
  cases m with
  | none =>
    refine hw_bind' (L.check _ _ _ _ ?_)
    exact x
  | some r =>
    obtain ⟨es, c, hm, x⟩ := x
    refine hw_bind' (hw_getObj hm hm.noCells ?_)
    refine hw_bind' (L.check _ _ _ _ ?_)
    refine hw_bind' (L.find _ _ _ _ ?_)
    cases hx : es.ix k 0 with
    | none =>
      rw [Ents.del_of_none _ _ _ hx] at x
      exact hw_bind' (hw_setObj hm hm.noCells x)
    | some p =>
      obtain ⟨j, w⟩ := p
      obtain ⟨q, hj, hl, hd⟩ := Ents.del_of_ix _ _ _ _ _ hx
      obtain rfl : j = q := by omega
      refine hw_bind' (hw_setObj hm hm.noCells ?_)
      rw [hd] at x
      have : (encE kf es).eraseIdxIfInBounds j = encE kf (es.eraseIdx j) := by
        unfold Array.eraseIdxIfInBounds
        rw [dif_pos (by simpa [encE] using hl)]
        apply Array.ext'
        simp only [encE, Array.toList_eraseIdx]
        apply List.ext_getElem?
        intro n
        simp only [List.getElem?_eraseIdx, List.getElem?_map]
        split <;> rfl
      rw [this]
      exact x

end ops

end Go.Rv
