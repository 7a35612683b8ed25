/- The heap-level reading of the model's memory operations: a weakest precondition over heaps alone, every answer of the tape allowed; and that it is sound. -/
import Derived.Calls
import Derived.KernelRfl
namespace Go.Rv
set_option linter.unusedVariables false

/-- Memory alone. -/
abbrev Heap := Array Obj

/-- A world that has just this memory. -/
def wd (h : Heap) : World := { heap := h, tape := fun _ _ => 0, drawn := 0, os := default, output := #[] }

def hcell (h : Heap) (a : Addr) : Option Value := (wd h).cell? a
def hfrozen (h : Heap) (a : Addr) : Bool := (wd h).frozen? a
def hshape (h : Heap) (r : Nat) : Option (TypeId × Nat) := (wd h).shape? r
def hset (h : Heap) (a : Addr) (v : Value) : Heap := ((wd h).setCell a v).heap

theorem cell_heap (w : World) (a : Addr) : w.cell? a = hcell w.heap a := rfl
theorem frozen_heap (w : World) (a : Addr) : w.frozen? a = hfrozen w.heap a := rfl
theorem shape_heap (w : World) (r : Nat) : w.shape? r = hshape w.heap r := rfl
theorem set_heap (w : World) (a : Addr) (v : Value) : (w.setCell a v).heap = hset w.heap a v := rfl

def Plain (v : Value) : Prop := (∀ cs, v ≠ .agg cs) ∧ ∀ cs, v ≠ .tuple cs
def NoCells (o : Obj) : Prop := ∀ c e f, o ≠ .cells c e f

/-- What one answer of the tape may be. -/
def May (q : Question) (n : Nat) : Prop := (q.forced = true ∧ n = 0) ∨ (q.forced = false ∧ ∃ t, n = q.cut t)

/-- The weakest precondition of memory operations, over heaps, whatever the tape answers. -/
def hw (P : Program) {α : Type} : Sem α → Heap → (α → Heap → Prop) → Prop
  | .pure a, h, K => K a h
  | .load _ a k, h, K => ∃ v, hcell h a = some v ∧ hw P (k v) h K
  | .store _ a v k, h, K => Plain v ∧ (∃ o, hcell h a = some o) ∧ hfrozen h a = false ∧ hw P k (hset h a v) K
  | .new o k, h, K => hw P (k h.size) (h.push o) K
  | .shape r k, h, K => hw P (k (hshape h r)) h K
  | .freeze _ _ _, _, _ => False
  | .frozen a k, h, K => hw P (k (hfrozen h a)) h K
  | .getObj r k, h, K => ∃ o, h[r]? = some o ∧ NoCells o ∧ hw P (k o) h K
  | .setObj r o k, h, K => (∃ o', h[r]? = some o' ∧ NoCells o') ∧ hw P k (h.setIfInBounds r o) K
  | .choose q k, h, K => ∀ n, May q n → hw P (k n) h K
  | .sys _ _, _, _ => False
  | .program k, h, K => hw P (k P) h K
  | .mark _ k, h, K => hw P k h K
  | .halt _, _, _ => False

theorem hw_mono {P : Program} {α : Type} {K K' : α → Heap → Prop} (hk : ∀ a h, K a h → K' a h) (s : Sem α) : ∀ h : Heap, hw P s h K → hw P s h K' := by
  induction s with
  | pure a => exact fun h x => hk _ _ x
  | load m a k ih => exact fun h ⟨v, e, x⟩ => ⟨v, e, ih _ _ x⟩
  | store m a v k ih => exact fun h ⟨p, o, f, x⟩ => ⟨p, o, f, ih _ x⟩
  | new o k ih => exact fun h x => ih _ _ x
  | shape r k ih => exact fun h x => ih _ _ x
  | freeze a n k ih => exact fun h x => x
  | frozen a k ih => exact fun h x => ih _ _ x
  | getObj r k ih => exact fun h ⟨o, e, n, x⟩ => ⟨o, e, n, ih _ _ x⟩
  | setObj r o k ih => exact fun h ⟨e, x⟩ => ⟨e, ih _ x⟩
  | choose q k ih => exact fun h x n m => ih _ _ (x n m)
  | sys c k ih => exact fun h x => x
  | program k ih => exact fun h x => ih _ _ x
  | mark m k ih => exact fun h x => ih _ x
  | halt e => exact fun h x => x

/-- What the operations leave of a world: the memory is told, nothing is written out, the files stay. -/
structure Kin (w w' : World) : Prop where
  os : w'.os = w.os
  output : w'.output = w.output
  tape : w'.tape = w.tape
  drawn : w.drawn ≤ w'.drawn

theorem Kin.refl (w : World) : Kin w w := ⟨rfl, rfl, rfl, Nat.le_refl _⟩
theorem Kin.trans {a b c : World} (x : Kin a b) (y : Kin b c) : Kin a c := ⟨y.os.trans x.os, y.output.trans x.output, y.tape.trans x.tape, Nat.le_trans x.drawn y.drawn⟩

theorem hw_run {P : Program} {α : Type} {K : α → Heap → Prop} (s : Sem α) : ∀ w : World, hw P s w.heap K →
    ∃ a w', s.run P w = .ok a w' ∧ K a w'.heap ∧ Kin w w' := by
  induction s with
  | pure a => exact fun w x => ⟨a, w, rfl, x, .refl _⟩
  | load m a k ih =>
    intro w ⟨v, e, x⟩
    obtain ⟨b, w', hr, hk, kin⟩ := ih v w x
    exact ⟨b, w', by simp only [Sem.run, cell_heap, e]; exact hr, hk, kin⟩
  | store m a v k ih =>
    intro w ⟨⟨p1, p2⟩, ⟨o, e⟩, f, x⟩
    obtain ⟨b, w', hr, hk, kin⟩ := ih (w.setCell a v) x
    refine ⟨b, w', ?_, hk, ⟨kin.os, kin.output, kin.tape, kin.drawn⟩⟩
    unfold Sem.run
    split
    · rename_i h1; cases h1
    · rename_i h1; cases h1
    · rename_i h1; cases h1; exact (p1 _ rfl).elim
    · rename_i h1; cases h1; exact (p2 _ rfl).elim
    · rename_i h1; cases h1; simp only [cell_heap, e, frozen_heap, f, Bool.false_eq_true, if_false]; exact hr
    all_goals (rename_i h1; cases h1)
  | new o k ih =>
    intro w x
    obtain ⟨b, w', hr, hk, kin⟩ := ih w.heap.size { w with heap := w.heap.push o } x
    exact ⟨b, w', by simp only [Sem.run]; exact hr, hk, ⟨kin.os, kin.output, kin.tape, kin.drawn⟩⟩
  | shape r k ih =>
    intro w x
    obtain ⟨b, w', hr, hk, kin⟩ := ih (w.shape? r) w x
    exact ⟨b, w', by simp only [Sem.run]; exact hr, hk, kin⟩
  | freeze a n k ih => exact fun w x => x.elim
  | frozen a k ih =>
    intro w x
    obtain ⟨b, w', hr, hk, kin⟩ := ih (w.frozen? a) w x
    exact ⟨b, w', by simp only [Sem.run]; exact hr, hk, kin⟩
  | getObj r k ih =>
    intro w ⟨o, e, n, x⟩
    obtain ⟨b, w', hr, hk, kin⟩ := ih o w x
    refine ⟨b, w', ?_, hk, kin⟩
    simp only [Sem.run, e]
    split
    · rename_i h1; cases h1; exact (n _ _ _ rfl).elim
    · rename_i h1; cases h1; exact hr
    · rename_i h1; cases h1
  | setObj r o k ih =>
    intro w ⟨⟨o', e, n⟩, x⟩
    obtain ⟨b, w', hr, hk, kin⟩ := ih { w with heap := w.heap.setIfInBounds r o } x
    refine ⟨b, w', ?_, hk, ⟨kin.os, kin.output, kin.tape, kin.drawn⟩⟩
    simp only [Sem.run, e]
    split
    · rename_i h1; cases h1; exact (n _ _ _ rfl).elim
    · exact hr
    · rename_i h1; cases h1
  | choose q k ih =>
    intro w x
    by_cases hq : q.forced = true
    · obtain ⟨b, w', hr, hk, kin⟩ := ih 0 w (x 0 (.inl ⟨hq, rfl⟩))
      exact ⟨b, w', by simp only [Sem.run, hq, if_true]; exact hr, hk, kin⟩
    · obtain ⟨b, w', hr, hk, kin⟩ := ih (q.cut (w.tape w.drawn q)) { w with drawn := w.drawn + 1 } (x _ (.inr ⟨by simpa using hq, _, rfl⟩))
      exact ⟨b, w', by simp only [Sem.run, hq]; exact hr, hk, ⟨kin.os, kin.output, kin.tape, Nat.le_trans (Nat.le_succ _) kin.drawn⟩⟩
  | sys c k ih => exact fun w x => x.elim
  | program k ih =>
    intro w x
    obtain ⟨b, w', hr, hk, kin⟩ := ih P w x
    exact ⟨b, w', by simp only [Sem.run]; exact hr, hk, kin⟩
  | mark m k ih =>
    intro w x
    obtain ⟨b, w', hr, hk, kin⟩ := ih w x
    exact ⟨b, w', by simp only [Sem.run]; exact hr, hk, kin⟩
  | halt e => exact fun w x => x.elim

theorem hw_bind {P : Program} {α β : Type} {K : β → Heap → Prop} (f : α → Sem β) (s : Sem α) : ∀ h : Heap, hw P s h (fun a h' => hw P (f a) h' K) → hw P (s.bind f) h K := by
  induction s with
  | pure a => exact fun h x => x
  | load m a k ih => exact fun h ⟨v, e, x⟩ => ⟨v, e, ih _ _ x⟩
  | store m a v k ih => exact fun h ⟨p, o, g, x⟩ => ⟨p, o, g, ih _ x⟩
  | new o k ih => exact fun h x => ih _ _ x
  | shape r k ih => exact fun h x => ih _ _ x
  | freeze a n k ih => exact fun h x => x
  | frozen a k ih => exact fun h x => ih _ _ x
  | getObj r k ih => exact fun h ⟨o, e, n, x⟩ => ⟨o, e, n, ih _ _ x⟩
  | setObj r o k ih => exact fun h ⟨e, x⟩ => ⟨e, ih _ x⟩
  | choose q k ih => exact fun h x n m => ih _ _ (x n m)
  | sys c k ih => exact fun h x => x
  | program k ih => exact fun h x => ih _ _ x
  | mark m k ih => exact fun h x => ih _ x
  | halt e => exact fun h x => x

/-- A call, over heaps: it returns, and what holds then. -/
def CallsH (P : Program) (f : FuncId) (args : Array Value) (h : Heap) (K : Value → Heap → Prop) : Prop :=
  ∀ w : World, w.heap = h → Calls P f args w fun e w' => ∃ v, e = .returned v ∧ K v w'.heap ∧ Kin w w'

theorem CallsH.mono {P : Program} {f : FuncId} {args : Array Value} {h : Heap} {K K' : Value → Heap → Prop} (x : CallsH P f args h K)
    (hk : ∀ v h', K v h' → K' v h') : CallsH P f args h K' :=
  fun w hw => (x w hw).mono fun _ _ ⟨v, e, k, kin⟩ => ⟨v, e, hk _ _ k, kin⟩

end Go.Rv
