/- The words of the printed readings. -/
import Derived.Test.YtlibanaihidlhaaGreatRvMain
namespace Go.Rv
set_option linter.unusedVariables false

def ldI (k : IntKind) (h : Heap) (a : Addr) (K : Int → Prop) : Prop := ∃ n, hcell h a = some (.int k n) ∧ K n
def ldB (h : Heap) (a : Addr) (K : Bool → Prop) : Prop := ∃ n, hcell h a = some (.bool n) ∧ K n
def ldS (h : Heap) (a : Addr) (K : ByteArray → Prop) : Prop := ∃ n, hcell h a = some (.string n) ∧ K n
def ldP (h : Heap) (a : Addr) (K : Option Addr → Prop) : Prop := ∃ n, hcell h a = some (.pointer n) ∧ K n
def ldSl (h : Heap) (a : Addr) (K : Option Addr → Nat → Nat → Prop) : Prop := ∃ b l c, hcell h a = some (.slice b l c) ∧ K b l c
def ldM (h : Heap) (a : Addr) (K : Option Nat → Prop) : Prop := ∃ n, hcell h a = some (.map n) ∧ K n
def ldV (h : Heap) (a : Addr) (K : Value → Prop) : Prop := ∃ n, hcell h a = some n ∧ K n

def isI (k : IntKind) (v : Value) (K : Int → Prop) : Prop := ∃ n, v = .int k n ∧ K n
def isB (v : Value) (K : Bool → Prop) : Prop := ∃ n, v = .bool n ∧ K n
def isS (v : Value) (K : ByteArray → Prop) : Prop := ∃ n, v = .string n ∧ K n
def isP (v : Value) (K : Option Addr → Prop) : Prop := ∃ n, v = .pointer n ∧ K n
def isSl (v : Value) (K : Option Addr → Nat → Nat → Prop) : Prop := ∃ b l c, v = .slice b l c ∧ K b l c
def isM (v : Value) (K : Option Nat → Prop) : Prop := ∃ n, v = .map n ∧ K n

def isA1 (v : Value) (K : Value → Prop) : Prop := ∃ x1, v = .agg #[x1] ∧ K x1
def isA2 (v : Value) (K : Value → Value → Prop) : Prop := ∃ x1 x2, v = .agg #[x1, x2] ∧ K x1 x2
def isA3 (v : Value) (K : Value → Value → Value → Prop) : Prop := ∃ x1 x2 x3, v = .agg #[x1, x2, x3] ∧ K x1 x2 x3
def isA4 (v : Value) (K : Value → Value → Value → Value → Prop) : Prop := ∃ x1 x2 x3 x4, v = .agg #[x1, x2, x3, x4] ∧ K x1 x2 x3 x4
def isA5 (v : Value) (K : Value → Value → Value → Value → Value → Prop) : Prop := ∃ x1 x2 x3 x4 x5, v = .agg #[x1, x2, x3, x4, x5] ∧ K x1 x2 x3 x4 x5
def isA6 (v : Value) (K : Value → Value → Value → Value → Value → Value → Prop) : Prop := ∃ x1 x2 x3 x4 x5 x6, v = .agg #[x1, x2, x3, x4, x5, x6] ∧ K x1 x2 x3 x4 x5 x6
def isA7 (v : Value) (K : Value → Value → Value → Value → Value → Value → Value → Prop) : Prop := ∃ x1 x2 x3 x4 x5 x6 x7, v = .agg #[x1, x2, x3, x4, x5, x6, x7] ∧ K x1 x2 x3 x4 x5 x6 x7
def isA8 (v : Value) (K : Value → Value → Value → Value → Value → Value → Value → Value → Prop) : Prop := ∃ x1 x2 x3 x4 x5 x6 x7 x8, v = .agg #[x1, x2, x3, x4, x5, x6, x7, x8] ∧ K x1 x2 x3 x4 x5 x6 x7 x8
def isA9 (v : Value) (K : Value → Value → Value → Value → Value → Value → Value → Value → Value → Prop) : Prop := ∃ x1 x2 x3 x4 x5 x6 x7 x8 x9, v = .agg #[x1, x2, x3, x4, x5, x6, x7, x8, x9] ∧ K x1 x2 x3 x4 x5 x6 x7 x8 x9
def isA10 (v : Value) (K : Value → Value → Value → Value → Value → Value → Value → Value → Value → Value → Prop) : Prop := ∃ x1 x2 x3 x4 x5 x6 x7 x8 x9 x10, v = .agg #[x1, x2, x3, x4, x5, x6, x7, x8, x9, x10] ∧ K x1 x2 x3 x4 x5 x6 x7 x8 x9 x10
def isA11 (v : Value) (K : Value → Value → Value → Value → Value → Value → Value → Value → Value → Value → Value → Prop) : Prop := ∃ x1 x2 x3 x4 x5 x6 x7 x8 x9 x10 x11, v = .agg #[x1, x2, x3, x4, x5, x6, x7, x8, x9, x10, x11] ∧ K x1 x2 x3 x4 x5 x6 x7 x8 x9 x10 x11
def isA12 (v : Value) (K : Value → Value → Value → Value → Value → Value → Value → Value → Value → Value → Value → Value → Prop) : Prop := ∃ x1 x2 x3 x4 x5 x6 x7 x8 x9 x10 x11 x12, v = .agg #[x1, x2, x3, x4, x5, x6, x7, x8, x9, x10, x11, x12] ∧ K x1 x2 x3 x4 x5 x6 x7 x8 x9 x10 x11 x12
def isA13 (v : Value) (K : Value → Value → Value → Value → Value → Value → Value → Value → Value → Value → Value → Value → Value → Prop) : Prop := ∃ x1 x2 x3 x4 x5 x6 x7 x8 x9 x10 x11 x12 x13, v = .agg #[x1, x2, x3, x4, x5, x6, x7, x8, x9, x10, x11, x12, x13] ∧ K x1 x2 x3 x4 x5 x6 x7 x8 x9 x10 x11 x12 x13
def isA14 (v : Value) (K : Value → Value → Value → Value → Value → Value → Value → Value → Value → Value → Value → Value → Value → Value → Prop) : Prop := ∃ x1 x2 x3 x4 x5 x6 x7 x8 x9 x10 x11 x12 x13 x14, v = .agg #[x1, x2, x3, x4, x5, x6, x7, x8, x9, x10, x11, x12, x13, x14] ∧ K x1 x2 x3 x4 x5 x6 x7 x8 x9 x10 x11 x12 x13 x14
def isA15 (v : Value) (K : Value → Value → Value → Value → Value → Value → Value → Value → Value → Value → Value → Value → Value → Value → Value → Prop) : Prop := ∃ x1 x2 x3 x4 x5 x6 x7 x8 x9 x10 x11 x12 x13 x14 x15, v = .agg #[x1, x2, x3, x4, x5, x6, x7, x8, x9, x10, x11, x12, x13, x14, x15] ∧ K x1 x2 x3 x4 x5 x6 x7 x8 x9 x10 x11 x12 x13 x14 x15
def isA16 (v : Value) (K : Value → Value → Value → Value → Value → Value → Value → Value → Value → Value → Value → Value → Value → Value → Value → Value → Prop) : Prop := ∃ x1 x2 x3 x4 x5 x6 x7 x8 x9 x10 x11 x12 x13 x14 x15 x16, v = .agg #[x1, x2, x3, x4, x5, x6, x7, x8, x9, x10, x11, x12, x13, x14, x15, x16] ∧ K x1 x2 x3 x4 x5 x6 x7 x8 x9 x10 x11 x12 x13 x14 x15 x16
def isA17 (v : Value) (K : Value → Value → Value → Value → Value → Value → Value → Value → Value → Value → Value → Value → Value → Value → Value → Value → Value → Prop) : Prop := ∃ x1 x2 x3 x4 x5 x6 x7 x8 x9 x10 x11 x12 x13 x14 x15 x16 x17, v = .agg #[x1, x2, x3, x4, x5, x6, x7, x8, x9, x10, x11, x12, x13, x14, x15, x16, x17] ∧ K x1 x2 x3 x4 x5 x6 x7 x8 x9 x10 x11 x12 x13 x14 x15 x16 x17
def isA18 (v : Value) (K : Value → Value → Value → Value → Value → Value → Value → Value → Value → Value → Value → Value → Value → Value → Value → Value → Value → Value → Prop) : Prop := ∃ x1 x2 x3 x4 x5 x6 x7 x8 x9 x10 x11 x12 x13 x14 x15 x16 x17 x18, v = .agg #[x1, x2, x3, x4, x5, x6, x7, x8, x9, x10, x11, x12, x13, x14, x15, x16, x17, x18] ∧ K x1 x2 x3 x4 x5 x6 x7 x8 x9 x10 x11 x12 x13 x14 x15 x16 x17 x18
def isT0 (v : Value) (K : Prop) : Prop := v = .tuple #[] ∧ K
def isT1 (v : Value) (K : Value → Prop) : Prop := ∃ x1, v = .tuple #[x1] ∧ K x1
def isT2 (v : Value) (K : Value → Value → Prop) : Prop := ∃ x1 x2, v = .tuple #[x1, x2] ∧ K x1 x2
def isT3 (v : Value) (K : Value → Value → Value → Prop) : Prop := ∃ x1 x2 x3, v = .tuple #[x1, x2, x3] ∧ K x1 x2 x3
def isT4 (v : Value) (K : Value → Value → Value → Value → Prop) : Prop := ∃ x1 x2 x3 x4, v = .tuple #[x1, x2, x3, x4] ∧ K x1 x2 x3 x4
def isT5 (v : Value) (K : Value → Value → Value → Value → Value → Prop) : Prop := ∃ x1 x2 x3 x4 x5, v = .tuple #[x1, x2, x3, x4, x5] ∧ K x1 x2 x3 x4 x5

/-- A test, its two ways. -/
def ifP (c : Bool) (A B : Prop) : Prop := Bool.rec (motive := fun _ => Prop) B A c

/-- New memory. -/
def nwP (h : Heap) (o : Obj) (K : Nat → Heap → Prop) : Prop := K h.size (h.push o)

theorem enters_mk {P : Program} {f : FuncId} {fn : Func} (hf : P.funcs[f]? = some fn) (hb : fn.body.isSome = true) (hn : (fn.name == "runtime.NumGoroutine") = false) : entersB P f = true := by
  unfold entersB
  rw [hf]
  simp [hb, hn]

/-- A function's contract out of its printed reading. -/
theorem mk_read {P : Program} {f : FuncId} {fn : Func} {args : Array Value} {h : Heap} {K : Value → Heap → Prop} {A : Prop} (hf : P.funcs[f]? = some fn) (ann : Ann)
    (hb : fn.body.isSome = true) (hn : (fn.name == "runtime.NumGoroutine") = false) (hsz : Nat.ble args.size fn.ntmps = true)
    (e : cw P fn.ntmps ann 0 (fn.body.getD .skip) (retQ P fn.results.toList K) (argFr args) h = A) (x : A) : CallsE P f args h K := by
  obtain ⟨c, hc⟩ := Option.isSome_iff_exists.1 hb
  rw [hc] at e
  exact calls_of_cw ann hf hc (enters_mk hf hb hn) (Nat.le_of_ble_eq_true hsz) (e.mpr x)

end Go.Rv
