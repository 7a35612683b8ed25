/- One operation over heaps, typed, and that it is sound for the model's own step. -/
import Derived.Test.YtlibanaihidlhaaGreatRvPrim
namespace Go.Rv
set_option linter.unusedVariables false
set_option linter.unusedSimpArgs false

/-- What becomes of an operation's outcome. -/
def nextK (P : Program) (K : Value → Heap → Prop) : Next → Heap → Prop
  | .value v, h => K v h
  | .skip, h => K undef h
  | .enter f args, h => CallsH P f args h K
  | _, _ => False

def opH (P : Program) (o : Oper) (ρ : Operand → Value) (h : Heap) (K : Value → Heap → Prop) : Prop := hw P (execOp ρ o) h (nextK P K)

/-- The function has a body: a call enters it. -/
def entersB (P : Program) (f : FuncId) : Bool := match P.funcs[f]? with
  | some fn => fn.body.isSome && !(fn.name == "runtime.NumGoroutine")
  | none => false

/-- A call over heaps, of a function that has a body. -/
def CallsE (P : Program) (f : FuncId) (args : Array Value) (h : Heap) (K : Value → Heap → Prop) : Prop := entersB P f = true ∧ CallsH P f args h K

theorem CallsE.mono {P : Program} {f : FuncId} {args : Array Value} {h : Heap} {K K' : Value → Heap → Prop} (x : CallsE P f args h K)
    (hk : ∀ v h', K v h' → K' v h') : CallsE P f args h K' := ⟨x.1, x.2.mono hk⟩

/-- Both ways of a test. -/
def condP (b : Bool) (A B : Prop) : Prop := @Bool.rec (fun _ => Prop) B A b

/-- A call of a function value. -/
def CallsV (P : Program) (f : Value) (args : Array Value) (h : Heap) (K : Value → Heap → Prop) : Prop := match f with
  | .func (.func g) first cap => CallsE P g (first ++ args ++ cap) h K
  | _ => False

/-- A pointer that is there. -/
def nnP (p : Option Addr) (K : Addr → Prop) : Prop := match p with
  | some a => K a
  | none => False

/-- Blocks at which addresses can be compared: plain rows of which no cell is a string's. -/
def FreeAt (h : Heap) (a : Addr) : Prop := ∃ c e, h[a.block]? = some (.cells c e (0, 0)) ∧ a.off < c.size

def ptrEqP (h : Heap) (p q : Option Addr) (K : Bool → Prop) : Prop :=
  (∀ a b, p = some a → q = some b → a.block = b.block ∨ (FreeAt h a ∧ FreeAt h b)) ∧ K (decide (p = q))

/-- Cell by cell. -/
def eqL : List Value → List Value → Bool
  | .int _ a :: xs, .int _ b :: ys => (a == b) && eqL xs ys
  | .bool a :: xs, .bool b :: ys => (a == b) && eqL xs ys
  | .string a :: xs, .string b :: ys => (a == b) && eqL xs ys
  | _, _ => true

/-- Cells of kinds that can be compared one by one. -/
def okL : List CK → List Value → Bool
  | [], [] => true
  | .int k :: ks, .int k' _ :: vs => decide (k = k') && okL ks vs
  | .bool :: ks, .bool _ :: vs => okL ks vs
  | .str :: ks, .string _ :: vs => okL ks vs
  | _, _ => false

/-- Types of such cells alone, laid one behind the other. -/
def plainTy (P : Program) : Nat → TypeId → Bool
  | 0, _ => false
  | d + 1, t => match P.underlying t, P.info? t with
    | some (.int _), some i => i.size == 1
    | some .bool, some i => i.size == 1
    | some .string, some i => i.size == 1
    | some (.array n e), some i => plainTy P d e && i.size == n * szOf P e
    | some (.struct fs), some i => !P.stoodInHeld t && fs.toList.all (fun f => f.name != "_" && plainTy P d f.type) && i.size == (fs.toList.map fun f => szOf P f.type).sum &&
        (fs.toList.zipIdx.all fun (f, j) => f.offset == ((fs.toList.take j).map fun f => szOf P f.type).sum)
    | _, _ => false

/-- The elements of an array's value. -/
def partsOf (agg : Bool) (s : Nat) (cs : List Value) : Nat → List Value
  | 0 => []
  | n + 1 => (if agg then .agg (cs.take s).toArray else cs.headD undef) :: partsOf agg s (cs.drop s) n

def idxC : List Value → Nat → Int → (Value → Prop) → Prop
  | [], _, _, _ => True
  | p :: ps, j, i, K => (i = j → K p) ∧ idxC ps (j + 1) i K

def idxL (ps : List Value) (i : Int) (K : Value → Prop) : Prop := 0 ≤ i ∧ i < ps.length ∧ idxC ps 0 i K

/-- A map's length. -/
def mlenP (h : Heap) (m : Option Nat) (K : Int → Prop) : Prop := match m with
  | none => K 0
  | some r => ∃ es c, h[r]? = some (.map es c) ∧ K (es.size : Nat)

def mlook (P : Program) (kt et : TypeId) (h : Heap) (m : Option Nat) (k : Value) (K : Value → Bool → Prop) : Prop :=
  match P.underlying kt, k, (P.info? et).bind (·.zero) with
  | some (.int q), .int q' n, some z => if q = q' then lkP (Value.int q) h m n z K else False
  | some .string, .string s, some z => lkP Value.string h m s z K
  | some (.array 3 e), .agg cs, some z =>
    match P.underlying e, (P.info? e).map (·.size), cs.toList with
    | some (.int .i64), some 1, [.int .i64 a, .int .i64 b, .int .i64 c] => lkP trip h m (a, b, c) z K
    | _, _, _ => False
  | _, _, _ => False

def mput (P : Program) (kt : TypeId) (h : Heap) (m : Option Nat) (k v : Value) (K : Heap → Prop) : Prop :=
  match P.underlying kt, k with
  | some (.int q), .int q' n => if q = q' then mputP (Value.int q) h m n v K else False
  | some .string, .string s => mputP Value.string h m s v K
  | some (.array 3 e), .agg cs =>
    match P.underlying e, (P.info? e).map (·.size), cs.toList with
    | some (.int .i64), some 1, [.int .i64 a, .int .i64 b, .int .i64 c] => mputP trip h m (a, b, c) v K
    | _, _, _ => False
  | _, _ => False

def mdel (P : Program) (kt : TypeId) (h : Heap) (m : Option Nat) (k : Value) (K : Heap → Prop) : Prop :=
  match P.underlying kt, k with
  | some (.int q), .int q' n => if q = q' then mdelP (Value.int q) h m n K else False
  | some .string, .string s => mdelP Value.string h m s K
  | some (.array 3 e), .agg cs =>
    match P.underlying e, (P.info? e).map (·.size), cs.toList with
    | some (.int .i64), some 1, [.int .i64 a, .int .i64 b, .int .i64 c] => mdelP trip h m (a, b, c) K
    | _, _, _ => False
  | _, _ => False

def optI (ρ : Operand → Value) : Option Operand → Option (Option Int)
  | none => some none
  | some x => match ρ x with
    | .int .i64 n => some (some n)
    | _ => none

/-- Whole numbers. -/
def intP (op : BinOp) (k : IntKind) (a : Int) (k' : IntKind) (b : Int) (K : Value → Prop) : Prop := match op with
  | .shl => 0 ≤ b ∧ K (.int k (k.wrap (a * 2 ^ (min b.toNat k.bits))))
  | .shr => 0 ≤ b ∧ K (.int k (a.fdiv (2 ^ (min b.toNat k.bits))))
  | _ => match decide (k = k') with
    | false => False
    | true => match op with
      | .add => K (.int k (k.wrap (a + b)))
      | .sub => K (.int k (k.wrap (a - b)))
      | .mul => K (.int k (k.wrap (a * b)))
      | .quo => b ≠ 0 ∧ K (.int k (k.wrap (a.tdiv b)))
      | .rem => b ≠ 0 ∧ K (.int k (a.tmod b))
      | .and => K (.int k (k.wrap (BitVec.ofInt k.bits a &&& BitVec.ofInt k.bits b).toNat))
      | .or => K (.int k (k.wrap (BitVec.ofInt k.bits a ||| BitVec.ofInt k.bits b).toNat))
      | .xor => K (.int k (k.wrap (BitVec.ofInt k.bits a ^^^ BitVec.ofInt k.bits b).toNat))
      | .eql => K (.bool (a == b))
      | .neq => K (.bool (a != b))
      | .lss => K (.bool (a < b))
      | .leq => K (.bool (a ≤ b))
      | .gtr => K (.bool (a > b))
      | .geq => K (.bool (a ≥ b))
      | _ => False

def strP (op : BinOp) (x y : ByteArray) (K : Value → Prop) : Prop := match op with
  | .add => ((x.size + y.size : Nat) : Int) ≤ IntKind.i64.max ∧ K (.string (x ++ y))
  | .eql => K (.bool (x.toList == y.toList))
  | .neq => K (.bool (!(x.toList == y.toList)))
  | .lss => K (.bool (Op.bytesLess x.toList y.toList))
  | .leq => K (.bool (Op.bytesLess x.toList y.toList || x.toList == y.toList))
  | .gtr => K (.bool (!(Op.bytesLess x.toList y.toList || x.toList == y.toList)))
  | .geq => K (.bool (!Op.bytesLess x.toList y.toList))
  | _ => False

/-- A function value that is there. -/
def nfP (f : Value) (K : Prop) : Prop := match f with
  | .func (.func _) _ _ => K
  | _ => False

/-- The parts of a struct's or an array's value: place and size of each. -/
def placesOf (P : Program) (t : TypeId) : Option (Nat → Option (Nat × Nat)) := match P.underlying t with
  | some (.struct fs) => match fs.toList.all fun f => (P.info? f.type).isSome with
    | true => some fun i => (fs.toList[i]?).map fun f => (f.offset, szOf P f.type)
    | false => none
  | some (.array _ e) => match P.info? e with
    | some ie => some fun i => some (i * ie.size, ie.size)
    | none => none
  | _ => none

/-- What hangs on the operands alone. -/
def pureP (P : Program) (o : Oper) (ρ : Operand → Value) (K : Value → Prop) : Prop :=
  match o.op with
  | .move x | .assign x => K (ρ x)
  | .pick c a b => match ρ c with
    | .bool t => @Bool.rec (fun _ => Prop) (K (ρ b)) (K (ρ a)) t
    | _ => False
  | .nilCheck x => match ρ x with
    | .pointer p => nnP p fun a => K (.pointer (some a))
    | f => nfP f (K f)
  | .slice t x lo hi mx => match P.underlying t, ρ x, optI ρ lo, optI ρ hi, optI ρ mx with
    | some (.slice e), .slice b l c, some lo', some hi', some mx' => match P.info? e with
      | some i => slcP i.size b l c lo' hi' mx' fun b l c => K (.slice b l c)
      | none => False
    | some .string, .string s, some lo', some hi', some none => sstP s lo' hi' fun s => K (.string s)
    | some (.array n e), .pointer (some a), some lo', some hi', some mx' => match P.info? e with
      | some i => slaP i.size a n lo' hi' mx' fun b l c => K (.slice b l c)
      | none => False
    | _, _, _, _, _ => False
  | .fieldAddr s x f => match P.underlying s, ρ x with
    | some (.struct fs), .pointer (some a) => match fs[f]? with
      | some fd => match szOf P fd.type with
        | 0 => False
        | _ + 1 => K (.pointer (some (a.add fd.offset)))
      | none => False
    | _, _ => False
  | .field t x f => match P.underlying t, ρ x with
    | some (.struct fs), .agg cs => match fs[f]? with
      | some fd => match P.underlying fd.type, P.info? fd.type with
        | some _, some i => match aggB P fd.type with
          | true => K (.agg (cs.extract fd.offset (fd.offset + i.size)))
          | false => match cs.toList[fd.offset]? with
            | some v => K v
            | none => False
        | _, _ => False
      | none => False
    | _, _ => False
  | .indexAddr t x ix => match P.underlying t, ρ x, ρ ix with
    | some (.slice e), .slice b l c, .int _ n => match P.info? e with
      | some i => ixP b l n i.size fun a => K (.pointer (some a))
      | none => False
    | some (.array len e), .pointer (some a), .int _ n => match P.info? e with
      | some i => ixP (some a) len n i.size fun a => K (.pointer (some a))
      | none => False
    | _, _, _ => False
  | .index t x ix => match P.underlying t, ρ x, ρ ix with
    | some (.array len e), .agg cs, .int _ n => if cs.size = len * szOf P e ∧ (P.info? e).isSome ∧ (P.underlying e).isSome ∧ (aggB P e = false → szOf P e = 1) then idxL (partsOf (aggB P e) (szOf P e) cs.toList len) n K else False
    | some .string, .string s, .int _ n => 0 ≤ n ∧ ∃ b, s.data.toList[n.toNat]? = some b ∧ K (.int .u8 b.toNat)
    | _, _, _ => False
  | .extract x i => match ρ x with
    | .tuple vs => match vs.toList[i]? with
      | some v => K v
      | none => False
    | _ => False
  | .build t parts => match (P.info? t).bind (·.zero), placesOf P t with
    | some z, some pl => match Instr.fill pl z.cells (parts.map fun (i, x) => (i, ρ x)).toList with
      | some cs => K (.agg cs)
      | none => False
    | _, _ => False
  | .makeFunc fn first captured => K (.func fn (first.map ρ) (captured.map ρ))
  | .convert src dst x => match P.underlying dst, P.underlying src, ρ x with
    | some (.int k), some _, .int _ n => K (.int k (k.wrap n))
    | some .string, some .string, .string s => K (.string s)
    | _, _, _ => False
  | .unOp op _ x => match op, ρ x with
    | .neg, .int k n => K (.int k (k.wrap (0 - n)))
    | .not, .bool b => K (.bool !b)
    | _, _ => False
  | .binOp op t x y _ => match ρ x, ρ y with
    | .int k a, .int k' b => intP op k a k' b K
    | .string a, .string b => strP op a b K
    | .bool a, .bool b => match P.underlying t, op with
      | some .bool, .eql => K (.bool (a == b))
      | some .bool, .neq => K (.bool (!(a == b)))
      | _, _ => False
    | .pointer p, .pointer none => match P.underlying t, op with
      | some (.pointer _), .eql => K (.bool p.isNone)
      | some (.pointer _), .neq => K (.bool (!p.isNone))
      | _, _ => False
    | .slice b _ _, .slice none _ _ => match P.underlying t, op with
      | some (.slice _), .eql => K (.bool b.isNone)
      | some (.slice _), .neq => K (.bool (!b.isNone))
      | _, _ => False
    | .map b, .map none => match P.underlying t, op with
      | some (.map _ _), .eql => K (.bool b.isNone)
      | some (.map _ _), .neq => K (.bool (!b.isNone))
      | _, _ => False
    | .agg xs, .agg ys => match plainTy P 8 t && aggB P t && !P.eqGuardType P.depth t && okL (kinds P 8 t) xs.toList && okL (kinds P 8 t) ys.toList, op with
      | true, .eql => K (.bool (eqL xs.toList ys.toList))
      | true, .neq => K (.bool (!eqL xs.toList ys.toList))
      | _, _ => False
    | _, _ => False
  | .call c => match c.callee with
    | .builtin .len => match c.argTypes.toList, (c.args.map ρ).toList with
      | [t], [x] => match P.underlying t, x with
        | some .string, .string s => K (.int .i64 (s.size : Nat))
        | some (.slice _), .slice _ n _ => K (.int .i64 (n : Nat))
        | some (.array n _), _ => K (.int .i64 (n : Nat))
        | _, _ => False
      | _, _ => False
    | .builtin .min => match (c.args.map ρ).toList with
      | [.int k x, .int _ y] => K (.int k (if y < x then y else x))
      | _ => False
    | .builtin .max => match (c.args.map ρ).toList with
      | [.int k x, .int _ y] => K (.int k (if y > x then y else x))
      | _ => False
    | _ => False
  | _ => False

/-- Which operations these are. -/
def pureB (P : Program) (o : Oper) : Bool := match o.op with
  | .move _ | .assign _ | .pick .. | .nilCheck _ | .slice .. | .fieldAddr .. | .field .. | .indexAddr .. | .index .. | .extract .. | .build .. | .makeFunc .. | .convert .. | .unOp .. => true
  | .binOp op t _ y _ => match P.underlying t, op, y with
    | some (.pointer _), .eql, .const (.pointer none) => true
    | some (.pointer _), .neq, .const (.pointer none) => true
    | some (.pointer _), _, _ => false
    | _, _, _ => true
  | .call c => match c.callee with
    | .builtin .len => match c.argTypes.toList with
      | [t] => match P.underlying t with
        | some (.map _ _) => false
        | _ => true
      | _ => false
    | .builtin .min => true
    | .builtin .max => true
    | _ => false
  | _ => false

/-- What reads memory and changes none. -/
def heapB (P : Program) (o : Oper) : Bool := match o.op with
  | .load .. | .lookup .. => true
  | .binOp .eql t _ _ _ | .binOp .neq t _ _ _ => match P.underlying t with
    | some (.pointer _) => true
    | _ => false
  | .call c => match c.callee with
    | .builtin .len => true
    | _ => false
  | _ => false

def heapP (P : Program) (o : Oper) (ρ : Operand → Value) (h : Heap) (K : Value → Prop) : Prop :=
  match o.op with
  | .load t a => match ρ a with
    | .pointer (some ad) => match P.underlying t with
      | some _ => ldT P t h ad K
      | none => False
    | _ => False
  | .lookup t m k ok => match P.underlying t, ρ m with
    | some (.map kt et), .map r => mlook P kt et h r (ρ k) fun v b => d1 (skind1 P et) v fun v => K (if ok then .tuple #[v, .bool b] else v)
    | _, _ => False
  | .binOp .eql t x y _ => match P.underlying t, ρ x, ρ y with
    | some (.pointer e), .pointer p, .pointer q => match szOf P e with
      | 0 => False
      | _ + 1 => ptrEqP h p q fun b => K (.bool b)
    | _, _, _ => False
  | .binOp .neq t x y _ => match P.underlying t, ρ x, ρ y with
    | some (.pointer e), .pointer p, .pointer q => match szOf P e with
      | 0 => False
      | _ + 1 => ptrEqP h p q fun b => K (.bool (!b))
    | _, _, _ => False
  | .call c => match c.callee with
    | .builtin .len => match c.argTypes.toList, (c.args.map ρ).toList with
      | [t], [.map m] => match P.underlying t with
        | some (.map kt et) => mlenP h m fun n => K (.int .i64 n)
        | _ => False
      | _, _ => False
    | _ => False
  | _ => False

/-- What changes memory. -/
def effV (P : Program) (o : Oper) (ρ : Operand → Value) (h : Heap) (K : Value → Heap → Prop) : Prop :=
  match o.op with
  | .store t a x => match ρ a with
    | .pointer (some ad) => match P.info? t with
      | some _ => stT P t h ad (ρ x) fun h' => K undef h'
      | none => False
    | _ => False
  | .mapUpdate t m k x | .insert t m k x => match P.underlying t, ρ m with
    | some (.map kt et), .map r => mput P kt h r (ρ k) (ρ x) fun h' => K undef h'
    | _, _ => False
  | .call c => match c.callee with
    | .value f => CallsV P (ρ f) (c.args.map ρ) h fun v h' => dR (skind P o.type) v fun v => K v h'
    | .builtin .append => match c.argTypes.toList, (c.args.map ρ).toList with
      | [t, t2], [.slice b l cp, .slice xb n xc] => match P.underlying t, P.underlying t2 with
        | some (.slice e), some d2 => match P.info? e with
          | some i => match i.zero with
            | some z => match isIntD d2 with
              | true => False
              | false => appP i.size i.bytes z.cells e h b l cp xb n fun b l c h' => K (.slice b l c) h'
            | none => False
          | none => False
        | _, _ => False
      | _, _ => False
    | .builtin .delete => match c.argTypes.toList, (c.args.map ρ).toList with
      | [t, t2], [.map m, k] => match P.underlying t with
        | some (.map kt et) => mdel P kt h m k fun h' => K (.tuple #[]) h'
        | _ => False
      | _, _ => False
    | _ => opH P o ρ h K
  | _ => opH P o ρ h K

/-- The operation, typed; what is not told apart here goes as the model has it. -/
def opV (P : Program) (o : Oper) (ρ : Operand → Value) (h : Heap) (K : Value → Heap → Prop) : Prop :=
  match pureB P o with
  | true => pureP P o ρ fun v => K v h
  | false => match heapB P o with
    | true => heapP P o ρ h fun v => K v h
    | false => effV P o ρ h K

end Go.Rv
