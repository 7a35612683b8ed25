/- Stores, slices, indexes and appends over heaps. -/
import Derived.Test.YtlibanaihidlhaaGreatRvMap
namespace Go.Rv
set_option linter.unusedVariables false
set_option linter.unusedSimpArgs false

def plainB : Value → Bool
  | .agg _ | .tuple _ => false
  | _ => true

theorem plain_of {v : Value} (h : plainB v = true) : Plain v := ⟨fun _ e => by subst e; simp [plainB] at h, fun _ e => by subst e; simp [plainB] at h⟩

/-- One cell is written. -/
def st1 (h : Heap) (a : Addr) (v : Value) (K : Heap → Prop) : Prop := (∃ o, hcell h a = some o) ∧ hfrozen h a = false ∧ K (hset h a v)

def sts (h : Heap) (a : Addr) : List Value → Nat → (Heap → Prop) → Prop
  | [], _, K => K h
  | v :: vs, i, K => match plainB v with
    | true => st1 h (a.add i) v fun h' => sts h' a vs (i + 1) K
    | false => False

def stT (P : Program) (t : TypeId) (h : Heap) (a : Addr) (v : Value) (K : Heap → Prop) : Prop :=
  if v.cells.size = szOf P t then sts h a v.cells.toList 0 K else False

/-- An index into a slice or an array: the element's address. -/
def ixP (b : Option Addr) (len : Nat) (i : Int) (size : Nat) (K : Addr → Prop) : Prop :=
  0 ≤ i ∧ i < len ∧ ∃ a, b = some a ∧ K (a.add (i.toNat * size))

/-- A part of a slice. -/
def slcP (size : Nat) (b : Option Addr) (len cap : Nat) (lo hi mx : Option Int) (K : Option Addr → Nat → Nat → Prop) : Prop :=
  let m : Int := mx.getD cap
  let h : Int := hi.getD len
  let l : Int := lo.getD 0
  (mx.isSome = true → hi.isSome = true) ∧ 0 ≤ m ∧ m ≤ cap ∧ 0 ≤ h ∧ (hi.isSome = true → h ≤ m) ∧ 0 ≤ l ∧ (lo.isSome = true → l ≤ h) ∧
    K (if m.toNat = l.toNat then b else b.map (·.add (l.toNat * size))) (h.toNat - l.toNat) (m.toNat - l.toNat)

/-- A part of an array. -/
def slaP (size : Nat) (a : Addr) (n : Nat) (lo hi mx : Option Int) (K : Option Addr → Nat → Nat → Prop) : Prop :=
  let m : Int := mx.getD n
  let h : Int := hi.getD n
  let l : Int := lo.getD 0
  (mx.isSome = true → hi.isSome = true) ∧ 0 ≤ m ∧ m ≤ n ∧ 0 ≤ h ∧ (hi.isSome = true → h ≤ m) ∧ 0 ≤ l ∧ (lo.isSome = true → l ≤ h) ∧
    K (some (if m.toNat = l.toNat then a else a.add (l.toNat * size))) (h.toNat - l.toNat) (m.toNat - l.toNat)

/-- A part of a string. -/
def sstP (s : ByteArray) (lo hi : Option Int) (K : ByteArray → Prop) : Prop :=
  let h : Int := hi.getD s.size
  let l : Int := lo.getD 0
  0 ≤ h ∧ h ≤ s.size ∧ 0 ≤ l ∧ l ≤ h ∧ K (s.extract l.toNat h.toNat)

/-- The cells from an address on. -/
def hrow (h : Heap) (a : Addr) (n : Nat) : Option (Array Value) := (List.range n).foldl (fun acc i => acc.bind fun vs => (hcell h (a.add i)).map vs.push) (some #[])

def rdP (h : Heap) (a : Addr) : Nat → Nat → Array Value → (Array Value → Prop) → Prop
  | 0, _, acc, K => K acc
  | n + 1, i, acc, K => ∃ v, hcell h (a.add i) = some v ∧ rdP h a n (i + 1) (acc.push v) K

/-- What an append takes from its source. -/
def srcP (h : Heap) (size n : Nat) (b : Option Addr) (K : Array Value → Prop) : Prop :=
  match b with
  | none => K #[]
  | some a => ∃ vs : Array Value, vs.size = n * size ∧ (∀ i (hi : i < vs.size), hcell h (a.add i) = some vs[i]) ∧ K vs

/-- An append: into what room there is, or into a new row of any capacity. -/
def appP (size bytes : Nat) (zero : Array Value) (elem : TypeId) (h : Heap) (b : Option Addr) (len cap : Nat) (xb : Option Addr) (n : Nat) (K : Option Addr → Nat → Nat → Heap → Prop) : Prop :=
  (len + n ≤ cap → srcP h size n xb fun new => match b with
    | some a => sts h (a.add (len * size)) new.toList 0 fun h' => K (some a) (len + n) cap h'
    | none => K none (len + n) cap h) ∧
  (cap < len + n → (len + n) * bytes ≤ 2 ^ 47 ∧ 0 < bytes ∧ len + n < 2 ^ 63 ∧ srcP h size len b fun old => srcP h size n xb fun new => ∀ c, len + n ≤ c → c < 2 ^ 63 →
    K (some ⟨h.size, 0, none⟩) (len + n) c (h.push (.cells (old ++ new ++ Builtin.zeroCells zero (c - (len + n))) elem)))

section runs
variable {P : Program} {h : Heap}

theorem hw_storeCells {a : Addr} {K : Unit → Heap → Prop} : ∀ (vs : List Value) (i : Nat) (h : Heap), (sts h a vs i fun h' => K () h') → hw P (storeCells a vs i) h K
  | [], i, h, x => by unfold storeCells; exact x
  | v :: vs, i, h, x => by
    unfold sts at x
    cases hp : plainB v with
    | false => simp [hp] at x
    | true =>
      simp only [hp] at x
      obtain ⟨o, f, x⟩ := x
      unfold storeCells
      show hw P (store (a.add i) v >>= fun _ => storeCells a vs (i + 1)) h K
      refine hw_bind' ⟨plain_of hp, o, f, ?_⟩
      exact hw_storeCells vs (i + 1) _ x

theorem hw_storeVar {t : TypeId} {a : Addr} {v : Value} {i : TypeInfo} {K : Unit → Heap → Prop} (ei : P.info? t = some i) (x : stT P t h a v fun h' => K () h') : hw P (storeVar t a v) h K := by
  unfold stT at x
  rw [szOf_eq ei] at x
  by_cases hs : v.cells.size = i.size
  · rw [if_pos hs] at x
    unfold storeVar
    refine hw_bind' (hw_sizeOf ei ?_)
    rw [if_neg (by simpa using hs)]
    exact hw_storeCells _ _ _ x
  · rw [if_neg hs] at x; exact x.elim

theorem hw_sliceBound {v : Int} {k : IntKind} {y : Nat} {code : BoundsCode} {K : Nat → Heap → Prop} (h0 : 0 ≤ v) (h1 : v ≤ y) (x : K v.toNat h) : hw P (Instr.sliceBound (.int k v) y code) h K := by
  unfold Instr.sliceBound
  refine hw_bind' ?_
  show hw P (if 0 ≤ v ∧ v ≤ y then pure v.toNat else _) h K
  rw [if_pos ⟨h0, h1⟩]; exact x

theorem hw_sliceBounds {b : Bool} {len cap : Nat} {k1 k2 k3 : IntKind} {lo hi mx : Option Int} {K : Nat × Nat × Nat → Heap → Prop}
    (hmx : mx.isSome = true → hi.isSome = true) (h1 : 0 ≤ mx.getD cap) (h2 : mx.getD cap ≤ cap) (h3 : 0 ≤ hi.getD len) (h4 : hi.isSome = true → hi.getD len ≤ mx.getD cap) (h5 : 0 ≤ lo.getD 0)
    (h6 : lo.isSome = true → lo.getD 0 ≤ hi.getD len)
    (x : K ((lo.getD 0).toNat, (hi.getD len).toNat, (mx.getD cap).toNat) h) : hw P (Instr.sliceBounds b len cap (lo.map (Value.int k1)) (hi.map (Value.int k2)) (mx.map (Value.int k3))) h K := by
  unfold Instr.sliceBounds
  have low : ∀ (hh : Nat) (code : BoundsCode) (F : Nat → Sem (Nat × Nat × Nat)), (lo.isSome = true → lo.getD 0 ≤ hh) → hw P (F (lo.getD 0).toNat) h K →
      hw P (match lo.map (Value.int k1) with | some v => do let l ← Instr.sliceBound v hh code; F l | none => do let l ← pure 0; F l) h K := by
    intro hh code F hle x
    cases lo with
    | none => exact x
    | some l =>
      simp only [Option.getD_some, Option.map_some, Option.isSome_some, forall_const] at *
      exact hw_bind' (hw_sliceBound h5 hle x)
  cases mx with
  | none =>
    simp only [Option.getD_none, Int.toNat_natCast, Option.map_none] at *
    refine hw_bind' ?_
    cases hi with
    | none =>
      simp only [Option.getD_none, Int.toNat_natCast, Option.map_none] at *
      exact low len _ (fun l => pure (l, len, cap)) h6 x
    | some l2 =>
      simp only [Option.getD_some, Option.map_some, Option.isSome_some, forall_const] at *
      refine hw_bind' (hw_sliceBound h3 h4 ?_)
      exact low l2.toNat _ (fun l => pure (l, l2.toNat, cap)) (by intro z; have := h6 z; omega) x
  | some m =>
    simp only [Option.getD_some, Option.map_some, Option.isSome_some, forall_const] at *
    refine hw_bind' (hw_sliceBound h1 h2 ?_)
    cases hi with
    | none => simp at hmx
    | some l2 =>
      simp only [Option.getD_some, Option.map_some, Option.isSome_some, forall_const] at *
      refine hw_bind' (hw_sliceBound h3 (by omega) ?_)
      exact low l2.toNat _ (fun l => pure (l, l2.toNat, m.toNat)) (by intro z; have := h6 z; omega) x

theorem hw_slice {t e : TypeId} {i : TypeInfo} {b : Option Addr} {len cap : Nat} {k1 k2 k3 : IntKind} {lo hi mx : Option Int} {K : Value → Heap → Prop}
    (et : P.underlying t = some (.slice e)) (ei : P.info? e = some i) (x : slcP i.size b len cap lo hi mx fun b l c => K (.slice b l c) h) :
    hw P (Instr.slice t (.slice b len cap) (lo.map (Value.int k1)) (hi.map (Value.int k2)) (mx.map (Value.int k3))) h K := by
  obtain ⟨h0, h1, h2, h3, h4, h5, h6, x⟩ := x
  unfold Instr.slice
  refine hw_bind' (hw_underlying et ?_)
  refine hw_bind' (hw_sliceBounds h0 h1 h2 h3 h4 h5 h6 ?_)
  exact hw_bind' (hw_sizeOf ei x)

theorem hw_sliceArr {t e : TypeId} {i : TypeInfo} {a : Addr} {n : Nat} {k1 k2 k3 : IntKind} {lo hi mx : Option Int} {K : Value → Heap → Prop}
    (et : P.underlying t = some (.array n e)) (ei : P.info? e = some i) (x : slaP i.size a n lo hi mx fun b l c => K (.slice b l c) h) :
    hw P (Instr.sliceAt t (.pointer (some a)) (lo.map (Value.int k1)) (hi.map (Value.int k2)) (mx.map (Value.int k3))) h K := by
  obtain ⟨h0, h1, h2, h3, h4, h5, h6, x⟩ := x
  unfold Instr.sliceAt
  refine hw_bind' (hw_underlying et ?_)
  show hw P (Instr.sliceBounds false n n _ _ _ >>= _) h K
  refine hw_bind' (hw_sliceBounds h0 h1 h2 h3 h4 h5 h6 ?_)
  exact hw_bind' (hw_sizeOf ei x)

theorem hw_sliceStr {t : TypeId} {s : ByteArray} {k1 k2 : IntKind} {lo hi : Option Int} {K : Value → Heap → Prop}
    (et : P.underlying t = some .string) (x : sstP s lo hi fun b => K (.string b) h) :
    hw P (Instr.slice t (.string s) (lo.map (Value.int k1)) (hi.map (Value.int k2)) none) h K := by
  obtain ⟨h1, h2, h3, h4, x⟩ := x
  unfold Instr.slice
  refine hw_bind' (hw_underlying et ?_)
  show hw P (Instr.sliceBounds false s.size s.size _ _ none >>= _) h K
  refine hw_bind' ?_
  have := hw_sliceBounds (P := P) (h := h) (b := false) (len := s.size) (cap := s.size) (k1 := k1) (k2 := k2) (k3 := .i64) (lo := lo) (hi := hi) (mx := none) (K := fun r h' => hw P (pure (.string (s.extract r.1 r.2.1))) h' K)
    (by simp) (by simp) (by simp) h1 (by intro; simpa using h2) h3 (by intro; exact h4) (show K _ h from x)
  exact this

theorem hw_indexAt {t e : TypeId} {i : TypeInfo} {b : Option Addr} {len cap : Nat} {k : IntKind} {n : Int} {K : Value → Heap → Prop}
    (et : P.underlying t = some (.slice e)) (ei : P.info? e = some i) (x : ixP b len n i.size fun a => K (.pointer (some a)) h) :
    hw P (Instr.indexAt t (.slice b len cap) (.int k n)) h K := by
  obtain ⟨h0, h1, a, rfl, x⟩ := x
  unfold Instr.indexAt
  show hw P (underlying t >>= _) h K
  refine hw_bind' (hw_underlying et ?_)
  show hw P (underlying t >>= _) h K
  refine hw_bind' (hw_underlying et ?_)
  simp only [h0, h1, and_self, if_true]
  exact hw_bind' (hw_sizeOf ei x)

theorem hw_indexAtArr {t e : TypeId} {i : TypeInfo} {a : Addr} {len : Nat} {k : IntKind} {n : Int} {K : Value → Heap → Prop}
    (et : P.underlying t = some (.array len e)) (ei : P.info? e = some i) (x : ixP (some a) len n i.size fun a => K (.pointer (some a)) h) :
    hw P (Instr.indexAt t (.pointer (some a)) (.int k n)) h K := by
  obtain ⟨h0, h1, _, e1, x⟩ := x
  cases e1
  unfold Instr.indexAt
  show hw P (underlying t >>= _) h K
  refine hw_bind' (hw_underlying et ?_)
  show hw P (underlying t >>= _) h K
  refine hw_bind' (hw_underlying et ?_)
  simp only [h0, h1, and_self, if_true]
  exact hw_bind' (hw_sizeOf ei x)

theorem hw_loadCellsFrom' {a : Addr} {K : Array Value → Heap → Prop} : ∀ (vs : List Value) (i : Nat) (acc : Array Value), (∀ j (hj : j < vs.length), hcell h (a.add (i + j)) = some vs[j]) → K (acc ++ vs.toArray) h →
    hw P (loadCellsFrom a i vs.length acc) h K
  | [], i, acc, hv, x => by
    have y : K acc h := by simpa using x
    exact y
  | v :: vs, i, acc, hv, x => by
    show hw P (load (a.add i) >>= fun v => loadCellsFrom a (i + 1) vs.length (acc.push v)) h K
    refine hw_bind' ⟨v, hv 0 (by simp), ?_⟩
    refine hw_loadCellsFrom' vs (i + 1) (acc.push v) (fun j hj => ?_) ?_
    · have := hv (j + 1) (by simpa using hj)
      simpa [Nat.add_assoc, Nat.add_comm 1 j] using this
    · have e : acc.push v ++ vs.toArray = acc ++ (v :: vs).toArray := by apply Array.ext'; simp
      rw [e]; exact x

theorem hw_firstCells {size n : Nat} {b : Option Addr} {l c : Nat} {K : Array Value → Heap → Prop} (x : srcP h size n b fun vs => K vs h) : hw P (Builtin.firstCells size n (.slice b l c)) h K := by
  cases b with
  | none => exact x
  | some a =>
    obtain ⟨vs, hs, hv, x⟩ := x
    show hw P (loadCells a (n * size)) h K
    unfold loadCells
    rw [← hs]
    have := hw_loadCellsFrom' (P := P) (h := h) (a := a) (K := K) vs.toList 0 #[] (by intro j hj; simpa using hv j (by simpa using hj)) (by simpa using x)
    simpa using this

theorem growBy_le (newLen : Nat) : ∀ (r c : Nat), c ≤ 2 * newLen + 1024 → Builtin.growBy newLen r c ≤ 4 * newLen + 2048
  | 0, c, h => by unfold Builtin.growBy; omega
  | r + 1, c, h => by
    unfold Builtin.growBy
    split
    · omega
    · exact growBy_le newLen r _ (by omega)

theorem growBy_le2 (newLen : Nat) : ∀ (r c : Nat), c < newLen → 256 ≤ c → Builtin.growBy newLen r c ≤ 2 * newLen
  | 0, c, h, _ => by unfold Builtin.growBy; omega
  | r + 1, c, h, h2 => by
    unfold Builtin.growBy
    rw [if_neg (by omega)]
    by_cases hc : c + (c + 768) / 4 < newLen
    · exact growBy_le2 newLen r _ hc (by omega)
    · cases r with
      | zero => unfold Builtin.growBy; omega
      | succ r => unfold Builtin.growBy; rw [if_pos (by omega)]; omega

theorem nextcap_le (n c : Nat) (h : c < n) : Builtin.nextslicecap n c ≤ 2 * n := by
  unfold Builtin.nextslicecap
  split
  · omega
  · split
    · omega
    · exact growBy_le2 n 4 c h (by omega)

def isIntD : TypeDesc → Bool
  | .int _ => true
  | _ => false

theorem hw_append {t t2 ty e : TypeId} {i : TypeInfo} {d2 : TypeDesc} {z : Value} {b xb : Option Addr} {len cap n xc : Nat} {K : Value → Heap → Prop}
    (et : P.underlying t = some (.slice e)) (ei : P.info? e = some i) (e2 : P.underlying t2 = some d2) (e2' : isIntD d2 = false) (ez : i.zero = some z)
    (x : appP i.size i.bytes z.cells e h b len cap xb n fun b l c h' => K (.slice b l c) h') :
    hw P (Builtin.append_ #[t, t2] ty #[.slice b len cap, .slice xb n xc]) h K := by
  obtain ⟨x1, x2⟩ := x
  unfold Builtin.append_
  show hw P (underlying t >>= _) h K
  refine hw_bind' (hw_underlying et ?_)
  show hw P (Go.sizeOf e >>= _) h K
  refine hw_bind' (hw_sizeOf ei ?_)
  refine hw_bind' ?_
  refine hw_bind' (hw_underlying (t := t2) e2 ?_)
  refine hw_bind' ?_
  refine (show ∀ (z : Bool) (K' : Bool → Heap → Prop), z = false → K' false h → hw P (pure z) h K' from fun z K' e y => by subst e; exact y) (isIntD d2) _ e2' ?_
  dsimp only
  refine hw_bind' ?_
  show hw P (if len + n ≤ cap then _ else _) h K
  split
  · rename_i hfit
    simp only [Bool.not_false, if_true]
    refine hw_bind' (hw_firstCells ?_)
    have x1 := x1 hfit
    cases xb with
    | none =>
      cases b with
      | none => exact x1
      | some a => exact hw_bind' (hw_storeCells _ _ _ x1)
    | some xa =>
      obtain ⟨vs, hs, hv, x1⟩ := x1
      refine ⟨vs, hs, hv, ?_⟩
      cases b with
      | none => exact x1
      | some a => exact hw_bind' (hw_storeCells _ _ _ x1)
  · rename_i hfit
    obtain ⟨hb, hb0, hl, x2⟩ := x2 (by omega)
    have hcap := nextcap_le (len + n) cap (by omega)
    refine hw_bind' (hw_typeInfo ei ?_)
    have c1 : ¬ (((len + n : Nat) : Int) > IntKind.i64.max ∧ (false = true ∨ i.bytes = 0)) := by
      rintro ⟨_, h2⟩
      rcases h2 with h2 | h2
      · cases h2
      · omega
    rw [if_neg c1]
    show hw P (_ >>= _) h K
    refine hw_bind' (hw_typeInfo ei ?_)
    have c2 : ¬ (Builtin.nextslicecap (len + n) cap * i.bytes > 2 ^ 48) := by
      have := Nat.mul_le_mul_right i.bytes hcap
      rw [Nat.mul_assoc] at this
      have : 2 * ((len + n) * i.bytes) ≤ 2 * 2 ^ 47 := Nat.mul_le_mul_left 2 hb
      omega
    rw [if_neg c2]
    show hw P (_ >>= _) h K
    refine hw_bind' ?_
    show hw P (choose (.appendCap (len + n) cap e)) h _
    intro c hc
    have hc' : len + n ≤ c ∧ c < 2 ^ 63 := by
      rcases hc with ⟨hf, _⟩ | ⟨_, tt, rfl⟩
      · simp [Question.forced] at hf
      · simp only [Question.cut]
        have : tt % (2 ^ 63 - (len + n)) < 2 ^ 63 - (len + n) := Nat.mod_lt _ (by omega)
        omega
    show hw P (_ >>= _) h K
    refine hw_bind' (hw_typeInfo ei ?_)
    show hw P (_ >>= _) h K
    refine hw_bind' ?_
    have hroom : ∀ (K : Unit → Heap → Prop), K () h → hw P (askRoom (c * i.bytes)) h K := by
      intro K hk
      unfold askRoom
      split
      · exact hk
      · exact hk
    refine hroom _ ?_
    refine hw_bind' (hw_firstCells ?_)
    have fin : ∀ (old new : Array Value), (∀ c, len + n ≤ c → c < 2 ^ 63 → K (.slice (some ⟨h.size, 0, none⟩) (len + n) c) (h.push (.cells (old ++ new ++ Builtin.zeroCells z.cells (c - (len + n))) e))) →
        hw P (do
          let rest := Builtin.zeroCells (← zeroValue e).cells (c - (len + n))
          pure (Value.slice (some (← newRow e (old ++ new ++ rest))) (len + n) c)) h K := by
      intro old new x
      refine hw_bind' (hw_zero ei ez ?_)
      exact x c hc'.1 hc'.2
    have x2' : srcP h i.size len b fun old => hw P (Builtin.firstCells i.size n (.slice xb n xc)) h fun new h' => hw P (do
          let rest := Builtin.zeroCells (← zeroValue e).cells (c - (len + n))
          pure (Value.slice (some (← newRow e (old ++ new ++ rest))) (len + n) c)) h' K := by
      have inner : ∀ old, (srcP h i.size n xb fun new => ∀ c, len + n ≤ c → c < 2 ^ 63 → K (.slice (some ⟨h.size, 0, none⟩) (len + n) c) (h.push (.cells (old ++ new ++ Builtin.zeroCells z.cells (c - (len + n))) e))) →
          hw P (Builtin.firstCells i.size n (.slice xb n xc)) h fun new h' => hw P (do
          let rest := Builtin.zeroCells (← zeroValue e).cells (c - (len + n))
          pure (Value.slice (some (← newRow e (old ++ new ++ rest))) (len + n) c)) h' K := by
        intro old hx
        refine hw_firstCells ?_
        cases xb with
        | none => exact fin old #[] hx
        | some xa =>
          obtain ⟨vs, hs, hv, hx⟩ := hx
          exact ⟨vs, hs, hv, fin old vs hx⟩
      cases b with
      | none => exact inner _ x2
      | some a =>
        obtain ⟨vs, hs, hv, hx⟩ := x2
        exact ⟨vs, hs, hv, inner _ hx⟩
    cases b with
    | none => exact hw_bind' x2'
    | some a =>
      obtain ⟨vs, hs, hv, hx⟩ := x2'
      exact ⟨vs, hs, hv, hw_bind' hx⟩

end runs
end Go.Rv
