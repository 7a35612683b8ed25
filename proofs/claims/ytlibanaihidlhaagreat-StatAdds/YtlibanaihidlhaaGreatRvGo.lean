/- Steps through a printed reading, one word at a time: each change of memory brings a new heap, with what is kept and what is new told as hypotheses; what blocks hold is looked up among them. -/
import Derived.Test.YtlibanaihidlhaaGreatRvEvs
namespace Go.Rv
set_option linter.unusedVariables false

/-- A row's cell by its place. -/
def nth : List Value → Nat → Option Value
  | [], _ => none
  | v :: _, 0 => some v
  | _ :: l, n + 1 => nth l n

theorem nth_eq : ∀ (l : List Value) (n : Nat), nth l n = l[n]?
  | [], _ => rfl
  | _ :: _, 0 => rfl
  | _ :: l, n + 1 => by rw [nth, nth_eq l n]; rfl

/-- A block is this row of cells. -/
def Row (h : Heap) (b : Nat) (l : List Value) : Prop := ∃ e, h[b]? = some (.cells l.toArray e (0, 0))

/-- Memory grown, all that was there as it was. -/
abbrev Same (h h' : Heap) : Prop := Keep (fun _ => False) h h'

theorem Row.lt {h : Heap} {b : Nat} {l : List Value} (x : Row h b l) : b < h.size := let ⟨_, y⟩ := x; lt_of_at y
theorem Row.of {h : Heap} {b : Nat} {l : List Value} {e : TypeId} (x : h[b]? = some (.cells l.toArray e (0, 0))) : Row h b l := ⟨e, x⟩
theorem Row.cell {h : Heap} {b i : Nat} {l : List Value} {v : Value} (x : Row h b l) (y : nth l i = some v) : hcell h ⟨b, i, none⟩ = some v := by
  obtain ⟨e, x⟩ := x
  rw [hcell_of x]
  show l.toArray[i]? = some v
  rw [List.getElem?_toArray, ← nth_eq, y]
theorem Row.keep {h h' : Heap} {b : Nat} {l : List Value} {T : Nat → Prop} (k : Keep T h h') (hb : ¬ T b) (x : Row h b l) : Row h' b l := let ⟨e, y⟩ := x; ⟨e, (k.at_ b x.lt hb).trans y⟩
theorem Row.same {h h' : Heap} {b : Nat} {l : List Value} (k : Same h h') (x : Row h b l) : Row h' b l := x.keep k id
theorem Row.inj {h : Heap} {b : Nat} {l l' : List Value} (x : Row h b l) (y : Row h b l') : l = l' := by
  obtain ⟨_, x⟩ := x
  obtain ⟨_, y⟩ := y
  rw [x] at y
  simpa using (congrArg (fun o => match o with | some (Obj.cells c _ _) => c.toList | _ => []) y)

theorem Keep.step {T T1 : Nat → Prop} {a b c : Heap} (y : Keep T1 b c) (hT : ∀ x, x < a.size → T1 x → T x) (x : Keep T a b) : Keep T a c :=
  ⟨Nat.le_trans x.size y.size, fun i hi ht => by rw [y.at_ i (Nat.lt_of_lt_of_le hi x.size) (fun e => ht (hT i hi e)), x.at_ i hi ht]⟩
theorem Keep.same {T : Nat → Prop} {a b c : Heap} (y : Same b c) (x : Keep T a b) : Keep T a c := Keep.step y (fun _ _ e => False.elim e) x

section steps
variable {h : Heap} {b i j : Nat} {l : List Value}
theorem gI {k : IntKind} {n : Int} {K : Int → Prop} (x : Row h b l) (y : nth l i = some (.int k n)) (z : K n) : ldI k h ⟨b, i, none⟩ K := ⟨n, x.cell y, z⟩
theorem gB {n : Bool} {K : Bool → Prop} (x : Row h b l) (y : nth l i = some (.bool n)) (z : K n) : ldB h ⟨b, i, none⟩ K := ⟨n, x.cell y, z⟩
theorem gS {n : ByteArray} {K : ByteArray → Prop} (x : Row h b l) (y : nth l i = some (.string n)) (z : K n) : ldS h ⟨b, i, none⟩ K := ⟨n, x.cell y, z⟩
theorem gP {n : Option Addr} {K : Option Addr → Prop} (x : Row h b l) (y : nth l i = some (.pointer n)) (z : K n) : ldP h ⟨b, i, none⟩ K := ⟨n, x.cell y, z⟩
theorem gM {n : Option Nat} {K : Option Nat → Prop} (x : Row h b l) (y : nth l i = some (.map n)) (z : K n) : ldM h ⟨b, i, none⟩ K := ⟨n, x.cell y, z⟩
theorem gL {a : Option Addr} {m c : Nat} {K : Option Addr → Nat → Nat → Prop} (x : Row h b l) (y : nth l i = some (.slice a m c)) (z : K a m c) : ldSl h ⟨b, i, none⟩ K := ⟨a, m, c, x.cell y, z⟩
theorem gV {n : Value} {K : Value → Prop} (x : Row h b l) (y : nth l i = some n) (z : K n) : ldV h ⟨b, i, none⟩ K := ⟨n, x.cell y, z⟩

theorem same_push (h : Heap) (o : Obj) : Same h (h.push o) := (Keep.refl _ _).push _
/-- A new row. -/
theorem gN {e : TypeId} {K : Nat → Heap → Prop} (z : ∀ b h', Same h h' → b = h.size → b < h'.size → h.size ≤ h'.size → Row h' b l → K b h') : nwP h (.cells l.toArray e (0, 0)) K :=
  z h.size _ (same_push _ _) rfl (by simp) (by simp) ⟨e, at_push_self _ _⟩
theorem gnn {a : Addr} {K : Addr → Prop} (z : K a) : nnP (some a) K := z
theorem addE (b i k : Nat) : (⟨b, i, none⟩ : Addr).add k = ⟨b, i + k, none⟩ := add_mk b i k

theorem sets (l : List Value) (i : Nat) (v : Value) : l.toArray.setIfInBounds i v = (l.set i v).toArray := by simp

/-- A store. -/
theorem gs {v : Value} {K : Heap → Prop} (x : Row h b l) (hi : Nat.blt i l.length = true) (z : ∀ h', Keep (fun x => x = b) h h' → h'.size = h.size → Row h' b (l.set i v) → K h') : st1 h ⟨b, i, none⟩ v K := by
  obtain ⟨e, x⟩ := x
  have hi : i < l.length := by simpa using hi
  rw [st1_ev x (by simpa using hi), sets]
  exact z _ ((Keep.refl _ _).set _ fun _ => rfl) (by simp) ⟨e, at_set_self (lt_of_at x)⟩

theorem gisI {k : IntKind} {n : Int} {K : Int → Prop} (z : K n) : isI k (.int k n) K := ⟨_, rfl, z⟩
theorem gisB {n : Bool} {K : Bool → Prop} (z : K n) : isB (.bool n) K := ⟨_, rfl, z⟩
theorem gisS {n : ByteArray} {K : ByteArray → Prop} (z : K n) : isS (.string n) K := ⟨_, rfl, z⟩
theorem gisP {n : Option Addr} {K : Option Addr → Prop} (z : K n) : isP (.pointer n) K := ⟨_, rfl, z⟩
theorem gisM {n : Option Nat} {K : Option Nat → Prop} (z : K n) : isM (.map n) K := ⟨_, rfl, z⟩
theorem gisL {a : Option Addr} {m c : Nat} {K : Option Addr → Nat → Nat → Prop} (z : K a m c) : isSl (.slice a m c) K := ⟨_, _, _, rfl, z⟩
/-- What a draw reads again is as it was. -/
theorem geq {v : Value} {h : Heap} {K : Prop} (z : K) : v = v ∧ h = h ∧ K := ⟨rfl, rfl, z⟩
theorem gT0 {K : Prop} (z : K) : isT0 (.tuple #[]) K := ⟨rfl, z⟩
theorem gT1 {a : Value} {K : Value → Prop} (z : K a) : isT1 (.tuple #[a]) K := ⟨_, rfl, z⟩
theorem gT2 {a b : Value} {K : Value → Value → Prop} (z : K a b) : isT2 (.tuple #[a, b]) K := ⟨_, _, rfl, z⟩
theorem gT3 {a b c : Value} {K : Value → Value → Value → Prop} (z : K a b c) : isT3 (.tuple #[a, b, c]) K := ⟨_, _, _, rfl, z⟩
theorem gA2 {a b : Value} {K : Value → Value → Prop} (z : K a b) : isA2 (.agg #[a, b]) K := ⟨_, _, rfl, z⟩
theorem gA3 {a b c : Value} {K : Value → Value → Value → Prop} (z : K a b c) : isA3 (.agg #[a, b, c]) K := ⟨_, _, _, rfl, z⟩
theorem gA4 {a b c d : Value} {K : Value → Value → Value → Value → Prop} (z : K a b c d) : isA4 (.agg #[a, b, c, d]) K := ⟨_, _, _, _, rfl, z⟩
theorem gA5 {a b c d e : Value} {K : Value → Value → Value → Value → Value → Prop} (z : K a b c d e) : isA5 (.agg #[a, b, c, d, e]) K := ⟨_, _, _, _, _, rfl, z⟩
theorem gA6 {a b c d e f : Value} {K : Value → Value → Value → Value → Value → Value → Prop} (z : K a b c d e f) : isA6 (.agg #[a, b, c, d, e, f]) K := ⟨_, _, _, _, _, _, rfl, z⟩
theorem gA7 {a b c d e f g : Value} {K : Value → Value → Value → Value → Value → Value → Value → Prop} (z : K a b c d e f g) : isA7 (.agg #[a, b, c, d, e, f, g]) K := ⟨_, _, _, _, _, _, _, rfl, z⟩
theorem gA8 {a b c d e f g h : Value} {K : Value → Value → Value → Value → Value → Value → Value → Value → Prop} (z : K a b c d e f g h) : isA8 (.agg #[a, b, c, d, e, f, g, h]) K := ⟨_, _, _, _, _, _, _, _, rfl, z⟩

/-- A test. -/
theorem gif {p : Prop} [Decidable p] {A B : Prop} (x : p → A) (y : ¬ p → B) : ifP (decide p) A B := by
  by_cases hp : p
  · rw [decide_eq_true hp]; exact x hp
  · rw [decide_eq_false hp]; exact y hp
theorem gifb {c : Bool} {A B : Prop} (x : c = true → A) (y : c = false → B) : ifP c A B := by
  cases c
  · exact y rfl
  · exact x rfl
theorem gif_t {c : Bool} {A B : Prop} (e : c = true) (x : A) : ifP c A B := by subst e; exact x
theorem gif_f {c : Bool} {A B : Prop} (e : c = false) (x : B) : ifP c A B := by subst e; exact x

theorem loop_i {S : Type} {s0 : S} {h : Heap} {body : (Nat → Value) → S → Heap → (S → Heap → Prop) → Prop} (I : S → Heap → Prop) (μ : S → Heap → Nat) (x : I s0 h)
    (y : ∀ g s h, I s h → body g s h fun s' h' => I s' h' ∧ μ s' h' < μ s h) : loopG s0 h body := ⟨I, μ, x, y⟩
theorem join_i {S : Type} {A : (S → Heap → Prop) → Prop} {R : (Nat → Value) → S → Heap → Prop} (x : A fun s h => ∀ g, R g s h) : joinS A R := joinS_of x
/-- Where ways meet, what is known there told. -/
theorem join_m {S : Type} {A : (S → Heap → Prop) → Prop} {R : (Nat → Value) → S → Heap → Prop} (M : S → Heap → Prop) (x : A M) (y : ∀ g s h, M s h → R g s h) : joinS A R := ⟨M, x, y⟩

theorem gix {a : Option Addr} {o m sz : Nat} {q : Int} {K : Addr → Prop} (ea : a = some ⟨b, o, none⟩) (h0 : 0 ≤ q) (h1 : q < m) (z : K ⟨b, o + q.toNat * sz, none⟩) : ixP a m q sz K :=
  ⟨h0, h1, _, ea, by rw [add_mk]; exact z⟩
end steps

theorem wrap_id {n : Int} (h0 : -9223372036854775808 ≤ n) (h1 : n < 9223372036854775808) : IntKind.wrap .i64 n = n := by
  simp [IntKind.wrap, IntKind.bits, IntKind.signed]
  omega
end Go.Rv
