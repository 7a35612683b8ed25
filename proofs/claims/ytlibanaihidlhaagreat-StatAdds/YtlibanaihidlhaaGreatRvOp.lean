/- The typed reading of single operations over heaps, and that it is sound for the model's own. -/
import Derived.Test.YtlibanaihidlhaaGreatRvHeap
import GoSem.Dispatch
namespace Go.Rv
set_option linter.unusedVariables false

/-- Kinds of cells. -/
inductive CK where
  | int (k : IntKind) | bool | str | ptr | slice | map | any
  deriving DecidableEq

/-- Kinds of values: one cell, an aggregate of cells, or several values. -/
inductive SK where
  | one (k : CK) | agg (l : List CK) | tup (l : List SK)

/-- A value of a kind is one of its shape. -/
def dC (k : CK) (v : Value) (K : Value → Prop) : Prop := match k with
  | .int k => ∃ n, v = .int k n ∧ K (.int k n)
  | .bool => ∃ b, v = .bool b ∧ K (.bool b)
  | .str => ∃ s, v = .string s ∧ K (.string s)
  | .ptr => ∃ p, v = .pointer p ∧ K (.pointer p)
  | .slice => ∃ a l c, v = .slice a l c ∧ K (.slice a l c)
  | .map => ∃ r, v = .map r ∧ K (.map r)
  | .any => K v

theorem dC_of {k : CK} {v : Value} {K : Value → Prop} (h : dC k v K) : K v := by
  cases k <;> simp only [dC] at h
  case any => exact h
  case slice => obtain ⟨_, _, _, rfl, h⟩ := h; exact h
  all_goals (obtain ⟨_, rfl, h⟩ := h; exact h)

def dCs : List CK → List Value → (List Value → Prop) → Prop
  | [], [], K => K []
  | k :: ks, v :: vs, K => dC k v fun v => dCs ks vs fun vs => K (v :: vs)
  | _, _, _ => False

theorem dCs_of : ∀ {ks : List CK} {vs : List Value} {K : List Value → Prop}, dCs ks vs K → K vs
  | [], [], _, h => h
  | _ :: _, v :: _, K, h => dCs_of (K := fun vs => K (_ :: vs)) (dC_of h)
  | [], _ :: _, _, h => h.elim
  | _ :: _, [], _, h => h.elim

/-- There are so many values. -/
def exN : Nat → (List Value → Prop) → Prop
  | 0, F => F []
  | n + 1, F => ∃ x, exN n fun l => F (x :: l)

theorem exN_of : ∀ {n : Nat} {F : List Value → Prop}, exN n F → ∃ l, F l
  | 0, _, h => ⟨[], h⟩
  | n + 1, _, ⟨x, h⟩ => let ⟨l, h⟩ := exN_of h; ⟨x :: l, h⟩

theorem exN_mono : ∀ {n : Nat} {F G : List Value → Prop}, (∀ l, F l → G l) → exN n F → exN n G
  | 0, _, _, hk, h => hk _ h
  | n + 1, _, _, hk, ⟨x, h⟩ => ⟨x, exN_mono (fun l y => hk _ y) h⟩

/-- One cell's kind; an aggregate's cells are told one by one. -/
def dA (l : List CK) (v : Value) (K : Value → Prop) : Prop := exN l.length fun vs => v = .agg vs.toArray ∧ dCs l vs fun l => K (.agg l.toArray)

theorem dA_of {l : List CK} {v : Value} {K : Value → Prop} (h : dA l v K) : K v := by
  obtain ⟨vs, rfl, h1⟩ := exN_of h
  exact dCs_of h1

def d1 : SK → Value → (Value → Prop) → Prop
  | .one k, v, K => dC k v K
  | .agg l, v, K => dA l v K
  | .tup _, v, K => K v

theorem d1_of {k : SK} {v : Value} {K : Value → Prop} (h : d1 k v K) : K v := by
  cases k with
  | one k => exact dC_of h
  | agg l => exact dA_of h
  | tup l => exact h

def d1s : List SK → List Value → (List Value → Prop) → Prop
  | [], [], K => K []
  | k :: ks, v :: vs, K => d1 k v fun v => d1s ks vs fun vs => K (v :: vs)
  | _, _, _ => False

theorem d1s_of : ∀ {ks : List SK} {vs : List Value} {K : List Value → Prop}, d1s ks vs K → K vs
  | [], [], _, h => h
  | _ :: _, v :: _, K, h => d1s_of (K := fun vs => K (_ :: vs)) (d1_of h)
  | [], _ :: _, _, h => h.elim
  | _ :: _, [], _, h => h.elim

/-- What a call hands back. -/
def dR : SK → Value → (Value → Prop) → Prop
  | .tup l, v, K => exN l.length fun vs => v = .tuple vs.toArray ∧ d1s l vs fun l => K (.tuple l.toArray)
  | k, v, K => d1 k v K

theorem dR_of {k : SK} {v : Value} {K : Value → Prop} (h : dR k v K) : K v := by
  cases k with
  | one k => exact dC_of h
  | agg l => exact dA_of h
  | tup l => obtain ⟨vs, rfl, h1⟩ := exN_of h; exact d1s_of h1

/-- The kinds of a type's cells. -/
def kinds (P : Program) : Nat → TypeId → List CK
  | 0, _ => [.any]
  | d + 1, t => match P.underlying t with
    | some (.int k) => [.int k]
    | some .bool => [.bool]
    | some .string => [.str]
    | some (.pointer _) => [.ptr]
    | some (.slice _) => [.slice]
    | some (.map _ _) => [.map]
    | some (.struct fs) => (fs.toList.map fun f => kinds P d f.type).flatten
    | some (.array n e) => (List.replicate n (kinds P d e)).flatten
    | _ => [.any]

def aggB (P : Program) (t : TypeId) : Bool := match P.underlying t with
  | some (.struct _) | some (.array _ _) => true
  | _ => false

def skind1 (P : Program) (t : TypeId) : SK := if aggB P t then .agg (kinds P 8 t) else .one ((kinds P 8 t).headD .any)

def skind (P : Program) (t : TypeId) : SK := match P.underlying t with
  | some (.tuple ts) => .tup (ts.toList.map (skind1 P))
  | _ => skind1 P t

/-- A typed load of one cell. -/
def ld1 (k : CK) (h : Heap) (a : Addr) (K : Value → Prop) : Prop := match k with
  | .int k => ∃ n, hcell h a = some (.int k n) ∧ K (.int k n)
  | .bool => ∃ b, hcell h a = some (.bool b) ∧ K (.bool b)
  | .str => ∃ s, hcell h a = some (.string s) ∧ K (.string s)
  | .ptr => ∃ p, hcell h a = some (.pointer p) ∧ K (.pointer p)
  | .slice => ∃ b l c, hcell h a = some (.slice b l c) ∧ K (.slice b l c)
  | .map => ∃ r, hcell h a = some (.map r) ∧ K (.map r)
  | .any => ∃ v, hcell h a = some v ∧ K v

theorem ld1_of {k : CK} {h : Heap} {a : Addr} {K : Value → Prop} (x : ld1 k h a K) : ∃ v, hcell h a = some v ∧ K v := by
  cases k <;> simp only [ld1] at x
  case slice => obtain ⟨_, _, _, e, x⟩ := x; exact ⟨_, e, x⟩
  all_goals (obtain ⟨_, e, x⟩ := x; exact ⟨_, e, x⟩)

def lds (h : Heap) (a : Addr) : List CK → Nat → (List Value → Prop) → Prop
  | [], _, K => K []
  | k :: ks, i, K => ld1 k h (a.add i) fun v => lds h a ks (i + 1) fun vs => K (v :: vs)

/-- How many cells a type has. -/
def szOf (P : Program) (t : TypeId) : Nat := match P.info? t with
  | some i => i.size
  | none => 0

theorem szOf_eq {P : Program} {t : TypeId} {i : TypeInfo} (e : P.info? t = some i) : szOf P t = i.size := by unfold szOf; rw [e]

def ldT (P : Program) (t : TypeId) (h : Heap) (a : Addr) (K : Value → Prop) : Prop :=
  if aggB P t then (if (kinds P 8 t).length = szOf P t then lds h a (kinds P 8 t) 0 fun vs => K (.agg vs.toArray) else False)
  else ld1 ((kinds P 8 t).headD .any) h a K

section runs
variable {P : Program} {h : Heap}

theorem hw_pure {α : Type} {a : α} {K : α → Heap → Prop} (x : K a h) : hw P (pure a) h K := x
theorem hw_bind' {α β : Type} {f : α → Sem β} {s : Sem α} {K : β → Heap → Prop} (x : hw P s h fun a h' => hw P (f a) h' K) : hw P (s >>= f) h K := hw_bind f s h x
theorem hw_underlying {t : TypeId} {d : TypeDesc} {K : TypeDesc → Heap → Prop} (e : P.underlying t = some d) (x : K d h) : hw P (underlying t) h K := by
  unfold underlying program
  show hw P (match P.underlying t with | some d => pure d | none => stuck "no such type") h K
  rw [e]; exact x
theorem hw_typeInfo {t : TypeId} {d : TypeInfo} {K : TypeInfo → Heap → Prop} (e : P.info? t = some d) (x : K d h) : hw P (typeInfo t) h K := by
  unfold typeInfo program
  show hw P (match P.info? t with | some d => pure d | none => stuck "no such type") h K
  rw [e]; exact x
theorem hw_sizeOf {t : TypeId} {d : TypeInfo} {K : Nat → Heap → Prop} (e : P.info? t = some d) (x : K d.size h) : hw P (Go.sizeOf t) h K :=
  hw_bind' (hw_typeInfo e x)
theorem hw_isAgg {t : TypeId} {d : TypeDesc} {K : Bool → Heap → Prop} (e : P.underlying t = some d) (x : K (aggB P t) h) : hw P (isAgg t) h K := by
  refine hw_bind' (hw_underlying e ?_)
  revert x; unfold aggB; rw [e]
  cases d <;> exact fun x => x

theorem hw_loadCellsFrom {a : Addr} {K : Array Value → Heap → Prop} : ∀ (ks : List CK) (i : Nat) (acc : Array Value),
    (lds h a ks i fun vs => K (acc ++ vs.toArray) h) → hw P (loadCellsFrom a i ks.length acc) h K
  | [], i, acc, x => by
    have y : K acc h := by simpa [lds] using x
    exact y
  | k :: ks, i, acc, x => by
    obtain ⟨v, e, x⟩ := ld1_of x
    show hw P (do let v ← load (a.add i); loadCellsFrom a (i + 1) ks.length (acc.push v)) h K
    refine hw_bind' ⟨v, e, ?_⟩
    refine hw_loadCellsFrom ks (i + 1) (acc.push v) ?_
    have : (fun vs : List Value => K (acc ++ (v :: vs).toArray) h) = fun vs => K (acc.push v ++ vs.toArray) h := by
      funext vs; rw [show acc ++ (v :: vs).toArray = acc.push v ++ vs.toArray from by apply Array.ext'; simp]
    rw [← this]; exact x

theorem hw_loadVar {t : TypeId} {a : Addr} {K : Value → Heap → Prop} {d : TypeDesc} {i : TypeInfo} (e : P.underlying t = some d) (ei : P.info? t = some i)
    (x : ldT P t h a fun v => K v h) : hw P (loadVar t a) h K := by
  refine hw_bind' (hw_isAgg e ?_)
  unfold ldT at x
  cases hg : aggB P t with
  | true =>
    simp only [hg, if_true] at x ⊢
    split at x
    · rename_i hl
      rw [szOf_eq ei] at hl
      refine hw_bind' (hw_sizeOf ei ?_)
      refine hw_bind' ?_
      rw [show i.size = (kinds P 8 t).length from hl.symm]
      refine hw_loadCellsFrom (K := fun vs h' => hw P (pure (Value.agg vs)) h' K) _ 0 #[] ?_
      have : (fun vs : List Value => K (.agg vs.toArray) h) = fun vs => hw P (pure (Value.agg (#[] ++ vs.toArray))) h K := by
        funext vs; simp; rfl
      rw [← this]; exact x
    · exact x.elim
  | false =>
    simp only [hg, Bool.false_eq_true, if_false] at x ⊢
    obtain ⟨v, e, x⟩ := ld1_of x
    exact ⟨v, e, x⟩

end runs

end Go.Rv
