/- Words for going through a printed reading by rewriting: what a cell holds behind pushes and stores. -/
import Derived.Test.YtlibanaihidlhaaGreatRvFrame
namespace Go.Rv
set_option linter.unusedVariables false
set_option linter.unusedSimpArgs false

def cellOf (o : Obj) (i : Nat) : Option Value := match o with
  | .cells c _ _ => c[i]?
  | _ => none

theorem cellOf_row (cs : Array Value) (e : TypeId) (f : Nat × Nat) (i : Nat) : cellOf (.cells cs e f) i = cs[i]? := rfl

theorem hcell_of {h : Heap} {b i : Nat} {o : Obj} (x : h[b]? = some o) : hcell h ⟨b, i, none⟩ = cellOf o i := by
  rw [hcell_eq, x]
  cases o <;> rfl

theorem hcell_push_eq {h : Heap} {o : Obj} {b i : Nat} (hb : b = h.size) : hcell (h.push o) ⟨b, i, none⟩ = cellOf o i := by
  subst hb
  exact hcell_of (at_push_self h o)

theorem hcell_push_lt {h : Heap} {o : Obj} {b i : Nat} (hb : b < h.size) : hcell (h.push o) ⟨b, i, none⟩ = hcell h ⟨b, i, none⟩ := by
  rw [hcell_eq, hcell_eq, at_push_lt hb]

theorem hcell_set_eq {h : Heap} {o : Obj} {b i : Nat} (hb : b < h.size) : hcell (h.setIfInBounds b o) ⟨b, i, none⟩ = cellOf o i := hcell_of (at_set_self hb)

theorem hcell_set_ne {h : Heap} {o : Obj} {b c i : Nat} (hb : b ≠ c) : hcell (h.setIfInBounds b o) ⟨c, i, none⟩ = hcell h ⟨c, i, none⟩ := by
  rw [hcell_eq, hcell_eq, at_set_ne hb]

/-- A store into the newest block. -/
theorem st1_push {h : Heap} {b i : Nat} {cs : Array Value} {e : TypeId} {v : Value} {K : Heap → Prop} (hb : b = h.size) (hi : i < cs.size) :
    st1 (h.push (.cells cs e (0, 0))) ⟨b, i, none⟩ v K = K (h.push (.cells (cs.setIfInBounds i v) e (0, 0))) := by
  subst hb
  have x := at_push_self h (row cs e)
  have e1 : (h.push (row cs e)).setIfInBounds h.size (row (cs.setIfInBounds i v) e) = h.push (row (cs.setIfInBounds i v) e) := by
    apply Array.ext_getElem?
    intro j
    rw [Array.getElem?_setIfInBounds, Array.getElem?_push, Array.getElem?_push]
    by_cases hj : h.size = j
    · simp [hj]
    · have hj2 : ¬ j = h.size := fun e => hj e.symm
      rw [if_neg hj, if_neg hj2, if_neg hj2]
  apply propext
  constructor
  · rintro ⟨_, _, y⟩
    rw [hset_row x, e1] at y
    exact y
  · intro y
    exact st1_row x hi (by rw [e1]; exact y)

theorem ldI_ev {k : IntKind} {h : Heap} {a : Addr} {K : Int → Prop} : ldI k h a K = ∃ n, hcell h a = some (.int k n) ∧ K n := rfl

theorem mputP_at {κ : Type} [DecidableEq κ] {kf : κ → Value} {h : Heap} {r : Nat} {es : Ents κ} {c : Nat} {k : κ} {v : Value} {K : Heap → Prop} (x : h[r]? = some (.map (encE kf es) c))
    (y : K (h.setIfInBounds r (.map (encE kf (es.put k v c)) (if es.has k then c else c + 1)))) : mputP kf h (some r) k v K := ⟨r, es, c, rfl, x, y⟩

theorem lkP_at {κ : Type} [DecidableEq κ] {kf : κ → Value} {h : Heap} {r : Nat} {es : Ents κ} {c : Nat} {k : κ} {z : Value} {K : Value → Bool → Prop} (x : h[r]? = some (.map (encE kf es) c))
    (y : K ((es.look k).getD z) (es.has k)) : lkP kf h (some r) k z K := ⟨es, c, x, y⟩

theorem mdelP_at {κ : Type} [DecidableEq κ] {kf : κ → Value} {h : Heap} {r : Nat} {es : Ents κ} {c : Nat} {k : κ} {K : Heap → Prop} (x : h[r]? = some (.map (encE kf es) c))
    (y : K (h.setIfInBounds r (.map (encE kf (es.del k)) c))) : mdelP kf h (some r) k K := ⟨es, c, x, y⟩

theorem mlenP_at {κ : Type} [DecidableEq κ] {kf : κ → Value} {h : Heap} {r : Nat} {es : Ents κ} {c : Nat} {K : Int → Prop} (x : h[r]? = some (.map (encE kf es) c))
    (y : K (es.length : Nat)) : mlenP h (some r) K := ⟨_, c, x, by simpa [encE] using y⟩

theorem at_push {h : Heap} {o : Obj} {b : Nat} : (h.push o)[b]? = if b = h.size then some o else h[b]? := Array.getElem?_push

theorem at_set {h : Heap} {o : Obj} {a b : Nat} : (h.setIfInBounds a o)[b]? = if a = b then (if a < h.size then some o else none) else h[b]? := Array.getElem?_setIfInBounds

theorem st1_ev {h : Heap} {b i : Nat} {cs : Array Value} {e : TypeId} {v : Value} {K : Heap → Prop} (x : h[b]? = some (.cells cs e (0, 0))) (hi : i < cs.size) :
    st1 h ⟨b, i, none⟩ v K = K (h.setIfInBounds b (.cells (cs.setIfInBounds i v) e (0, 0))) := by
  apply propext
  constructor
  · rintro ⟨_, _, y⟩
    rw [hset_row x] at y
    exact y
  · intro y
    exact st1_row x hi y

theorem nnP_some {a : Addr} {K : Addr → Prop} : nnP (some a) K = K a := rfl

theorem isA1_mk {a1 : Value} {K : Value → Prop} : isA1 (.agg #[a1]) K = K a1 := by
  apply propext
  constructor
  · rintro ⟨x1, e, y⟩
    simp only [Value.agg.injEq, Array.mk.injEq, List.cons.injEq, and_true] at e
    subst e
    exact y
  · exact fun y => ⟨_, rfl, y⟩

theorem isA2_mk {a1 a2 : Value} {K : Value → Value → Prop} : isA2 (.agg #[a1, a2]) K = K a1 a2 := by
  apply propext
  constructor
  · rintro ⟨x1, x2, e, y⟩
    simp only [Value.agg.injEq, Array.mk.injEq, List.cons.injEq, and_true] at e
    obtain ⟨rfl, rfl⟩ := e
    exact y
  · exact fun y => ⟨_, _, rfl, y⟩

theorem isA3_mk {a1 a2 a3 : Value} {K : Value → Value → Value → Prop} : isA3 (.agg #[a1, a2, a3]) K = K a1 a2 a3 := by
  apply propext
  constructor
  · rintro ⟨x1, x2, x3, e, y⟩
    simp only [Value.agg.injEq, Array.mk.injEq, List.cons.injEq, and_true] at e
    obtain ⟨rfl, rfl, rfl⟩ := e
    exact y
  · exact fun y => ⟨_, _, _, rfl, y⟩

theorem isA4_mk {a1 a2 a3 a4 : Value} {K : Value → Value → Value → Value → Prop} : isA4 (.agg #[a1, a2, a3, a4]) K = K a1 a2 a3 a4 := by
  apply propext
  constructor
  · rintro ⟨x1, x2, x3, x4, e, y⟩
    simp only [Value.agg.injEq, Array.mk.injEq, List.cons.injEq, and_true] at e
    obtain ⟨rfl, rfl, rfl, rfl⟩ := e
    exact y
  · exact fun y => ⟨_, _, _, _, rfl, y⟩

theorem isA5_mk {a1 a2 a3 a4 a5 : Value} {K : Value → Value → Value → Value → Value → Prop} : isA5 (.agg #[a1, a2, a3, a4, a5]) K = K a1 a2 a3 a4 a5 := by
  apply propext
  constructor
  · rintro ⟨x1, x2, x3, x4, x5, e, y⟩
    simp only [Value.agg.injEq, Array.mk.injEq, List.cons.injEq, and_true] at e
    obtain ⟨rfl, rfl, rfl, rfl, rfl⟩ := e
    exact y
  · exact fun y => ⟨_, _, _, _, _, rfl, y⟩

theorem isA6_mk {a1 a2 a3 a4 a5 a6 : Value} {K : Value → Value → Value → Value → Value → Value → Prop} : isA6 (.agg #[a1, a2, a3, a4, a5, a6]) K = K a1 a2 a3 a4 a5 a6 := by
  apply propext
  constructor
  · rintro ⟨x1, x2, x3, x4, x5, x6, e, y⟩
    simp only [Value.agg.injEq, Array.mk.injEq, List.cons.injEq, and_true] at e
    obtain ⟨rfl, rfl, rfl, rfl, rfl, rfl⟩ := e
    exact y
  · exact fun y => ⟨_, _, _, _, _, _, rfl, y⟩

theorem isA7_mk {a1 a2 a3 a4 a5 a6 a7 : Value} {K : Value → Value → Value → Value → Value → Value → Value → Prop} : isA7 (.agg #[a1, a2, a3, a4, a5, a6, a7]) K = K a1 a2 a3 a4 a5 a6 a7 := by
  apply propext
  constructor
  · rintro ⟨x1, x2, x3, x4, x5, x6, x7, e, y⟩
    simp only [Value.agg.injEq, Array.mk.injEq, List.cons.injEq, and_true] at e
    obtain ⟨rfl, rfl, rfl, rfl, rfl, rfl, rfl⟩ := e
    exact y
  · exact fun y => ⟨_, _, _, _, _, _, _, rfl, y⟩

theorem isA8_mk {a1 a2 a3 a4 a5 a6 a7 a8 : Value} {K : Value → Value → Value → Value → Value → Value → Value → Value → Prop} : isA8 (.agg #[a1, a2, a3, a4, a5, a6, a7, a8]) K = K a1 a2 a3 a4 a5 a6 a7 a8 := by
  apply propext
  constructor
  · rintro ⟨x1, x2, x3, x4, x5, x6, x7, x8, e, y⟩
    simp only [Value.agg.injEq, Array.mk.injEq, List.cons.injEq, and_true] at e
    obtain ⟨rfl, rfl, rfl, rfl, rfl, rfl, rfl, rfl⟩ := e
    exact y
  · exact fun y => ⟨_, _, _, _, _, _, _, _, rfl, y⟩

theorem isA9_mk {a1 a2 a3 a4 a5 a6 a7 a8 a9 : Value} {K : Value → Value → Value → Value → Value → Value → Value → Value → Value → Prop} : isA9 (.agg #[a1, a2, a3, a4, a5, a6, a7, a8, a9]) K = K a1 a2 a3 a4 a5 a6 a7 a8 a9 := by
  apply propext
  constructor
  · rintro ⟨x1, x2, x3, x4, x5, x6, x7, x8, x9, e, y⟩
    simp only [Value.agg.injEq, Array.mk.injEq, List.cons.injEq, and_true] at e
    obtain ⟨rfl, rfl, rfl, rfl, rfl, rfl, rfl, rfl, rfl⟩ := e
    exact y
  · exact fun y => ⟨_, _, _, _, _, _, _, _, _, rfl, y⟩

theorem isA10_mk {a1 a2 a3 a4 a5 a6 a7 a8 a9 a10 : Value} {K : Value → Value → Value → Value → Value → Value → Value → Value → Value → Value → Prop} : isA10 (.agg #[a1, a2, a3, a4, a5, a6, a7, a8, a9, a10]) K = K a1 a2 a3 a4 a5 a6 a7 a8 a9 a10 := by
  apply propext
  constructor
  · rintro ⟨x1, x2, x3, x4, x5, x6, x7, x8, x9, x10, e, y⟩
    simp only [Value.agg.injEq, Array.mk.injEq, List.cons.injEq, and_true] at e
    obtain ⟨rfl, rfl, rfl, rfl, rfl, rfl, rfl, rfl, rfl, rfl⟩ := e
    exact y
  · exact fun y => ⟨_, _, _, _, _, _, _, _, _, _, rfl, y⟩

theorem isA11_mk {a1 a2 a3 a4 a5 a6 a7 a8 a9 a10 a11 : Value} {K : Value → Value → Value → Value → Value → Value → Value → Value → Value → Value → Value → Prop} : isA11 (.agg #[a1, a2, a3, a4, a5, a6, a7, a8, a9, a10, a11]) K = K a1 a2 a3 a4 a5 a6 a7 a8 a9 a10 a11 := by
  apply propext
  constructor
  · rintro ⟨x1, x2, x3, x4, x5, x6, x7, x8, x9, x10, x11, e, y⟩
    simp only [Value.agg.injEq, Array.mk.injEq, List.cons.injEq, and_true] at e
    obtain ⟨rfl, rfl, rfl, rfl, rfl, rfl, rfl, rfl, rfl, rfl, rfl⟩ := e
    exact y
  · exact fun y => ⟨_, _, _, _, _, _, _, _, _, _, _, rfl, y⟩

theorem isA12_mk {a1 a2 a3 a4 a5 a6 a7 a8 a9 a10 a11 a12 : Value} {K : Value → Value → Value → Value → Value → Value → Value → Value → Value → Value → Value → Value → Prop} : isA12 (.agg #[a1, a2, a3, a4, a5, a6, a7, a8, a9, a10, a11, a12]) K = K a1 a2 a3 a4 a5 a6 a7 a8 a9 a10 a11 a12 := by
  apply propext
  constructor
  · rintro ⟨x1, x2, x3, x4, x5, x6, x7, x8, x9, x10, x11, x12, e, y⟩
    simp only [Value.agg.injEq, Array.mk.injEq, List.cons.injEq, and_true] at e
    obtain ⟨rfl, rfl, rfl, rfl, rfl, rfl, rfl, rfl, rfl, rfl, rfl, rfl⟩ := e
    exact y
  · exact fun y => ⟨_, _, _, _, _, _, _, _, _, _, _, _, rfl, y⟩

theorem isA13_mk {a1 a2 a3 a4 a5 a6 a7 a8 a9 a10 a11 a12 a13 : Value} {K : Value → Value → Value → Value → Value → Value → Value → Value → Value → Value → Value → Value → Value → Prop} : isA13 (.agg #[a1, a2, a3, a4, a5, a6, a7, a8, a9, a10, a11, a12, a13]) K = K a1 a2 a3 a4 a5 a6 a7 a8 a9 a10 a11 a12 a13 := by
  apply propext
  constructor
  · rintro ⟨x1, x2, x3, x4, x5, x6, x7, x8, x9, x10, x11, x12, x13, e, y⟩
    simp only [Value.agg.injEq, Array.mk.injEq, List.cons.injEq, and_true] at e
    obtain ⟨rfl, rfl, rfl, rfl, rfl, rfl, rfl, rfl, rfl, rfl, rfl, rfl, rfl⟩ := e
    exact y
  · exact fun y => ⟨_, _, _, _, _, _, _, _, _, _, _, _, _, rfl, y⟩

theorem isA14_mk {a1 a2 a3 a4 a5 a6 a7 a8 a9 a10 a11 a12 a13 a14 : Value} {K : Value → Value → Value → Value → Value → Value → Value → Value → Value → Value → Value → Value → Value → Value → Prop} : isA14 (.agg #[a1, a2, a3, a4, a5, a6, a7, a8, a9, a10, a11, a12, a13, a14]) K = K a1 a2 a3 a4 a5 a6 a7 a8 a9 a10 a11 a12 a13 a14 := by
  apply propext
  constructor
  · rintro ⟨x1, x2, x3, x4, x5, x6, x7, x8, x9, x10, x11, x12, x13, x14, e, y⟩
    simp only [Value.agg.injEq, Array.mk.injEq, List.cons.injEq, and_true] at e
    obtain ⟨rfl, rfl, rfl, rfl, rfl, rfl, rfl, rfl, rfl, rfl, rfl, rfl, rfl, rfl⟩ := e
    exact y
  · exact fun y => ⟨_, _, _, _, _, _, _, _, _, _, _, _, _, _, rfl, y⟩

theorem isA15_mk {a1 a2 a3 a4 a5 a6 a7 a8 a9 a10 a11 a12 a13 a14 a15 : Value} {K : Value → Value → Value → Value → Value → Value → Value → Value → Value → Value → Value → Value → Value → Value → Value → Prop} : isA15 (.agg #[a1, a2, a3, a4, a5, a6, a7, a8, a9, a10, a11, a12, a13, a14, a15]) K = K a1 a2 a3 a4 a5 a6 a7 a8 a9 a10 a11 a12 a13 a14 a15 := by
  apply propext
  constructor
  · rintro ⟨x1, x2, x3, x4, x5, x6, x7, x8, x9, x10, x11, x12, x13, x14, x15, e, y⟩
    simp only [Value.agg.injEq, Array.mk.injEq, List.cons.injEq, and_true] at e
    obtain ⟨rfl, rfl, rfl, rfl, rfl, rfl, rfl, rfl, rfl, rfl, rfl, rfl, rfl, rfl, rfl⟩ := e
    exact y
  · exact fun y => ⟨_, _, _, _, _, _, _, _, _, _, _, _, _, _, _, rfl, y⟩

theorem isA16_mk {a1 a2 a3 a4 a5 a6 a7 a8 a9 a10 a11 a12 a13 a14 a15 a16 : Value} {K : Value → Value → Value → Value → Value → Value → Value → Value → Value → Value → Value → Value → Value → Value → Value → Value → Prop} : isA16 (.agg #[a1, a2, a3, a4, a5, a6, a7, a8, a9, a10, a11, a12, a13, a14, a15, a16]) K = K a1 a2 a3 a4 a5 a6 a7 a8 a9 a10 a11 a12 a13 a14 a15 a16 := by
  apply propext
  constructor
  · rintro ⟨x1, x2, x3, x4, x5, x6, x7, x8, x9, x10, x11, x12, x13, x14, x15, x16, e, y⟩
    simp only [Value.agg.injEq, Array.mk.injEq, List.cons.injEq, and_true] at e
    obtain ⟨rfl, rfl, rfl, rfl, rfl, rfl, rfl, rfl, rfl, rfl, rfl, rfl, rfl, rfl, rfl, rfl⟩ := e
    exact y
  · exact fun y => ⟨_, _, _, _, _, _, _, _, _, _, _, _, _, _, _, _, rfl, y⟩

theorem isA17_mk {a1 a2 a3 a4 a5 a6 a7 a8 a9 a10 a11 a12 a13 a14 a15 a16 a17 : Value} {K : Value → Value → Value → Value → Value → Value → Value → Value → Value → Value → Value → Value → Value → Value → Value → Value → Value → Prop} : isA17 (.agg #[a1, a2, a3, a4, a5, a6, a7, a8, a9, a10, a11, a12, a13, a14, a15, a16, a17]) K = K a1 a2 a3 a4 a5 a6 a7 a8 a9 a10 a11 a12 a13 a14 a15 a16 a17 := by
  apply propext
  constructor
  · rintro ⟨x1, x2, x3, x4, x5, x6, x7, x8, x9, x10, x11, x12, x13, x14, x15, x16, x17, e, y⟩
    simp only [Value.agg.injEq, Array.mk.injEq, List.cons.injEq, and_true] at e
    obtain ⟨rfl, rfl, rfl, rfl, rfl, rfl, rfl, rfl, rfl, rfl, rfl, rfl, rfl, rfl, rfl, rfl, rfl⟩ := e
    exact y
  · exact fun y => ⟨_, _, _, _, _, _, _, _, _, _, _, _, _, _, _, _, _, rfl, y⟩

theorem isA18_mk {a1 a2 a3 a4 a5 a6 a7 a8 a9 a10 a11 a12 a13 a14 a15 a16 a17 a18 : Value} {K : Value → Value → Value → Value → Value → Value → Value → Value → Value → Value → Value → Value → Value → Value → Value → Value → Value → Value → Prop} : isA18 (.agg #[a1, a2, a3, a4, a5, a6, a7, a8, a9, a10, a11, a12, a13, a14, a15, a16, a17, a18]) K = K a1 a2 a3 a4 a5 a6 a7 a8 a9 a10 a11 a12 a13 a14 a15 a16 a17 a18 := by
  apply propext
  constructor
  · rintro ⟨x1, x2, x3, x4, x5, x6, x7, x8, x9, x10, x11, x12, x13, x14, x15, x16, x17, x18, e, y⟩
    simp only [Value.agg.injEq, Array.mk.injEq, List.cons.injEq, and_true] at e
    obtain ⟨rfl, rfl, rfl, rfl, rfl, rfl, rfl, rfl, rfl, rfl, rfl, rfl, rfl, rfl, rfl, rfl, rfl, rfl⟩ := e
    exact y
  · exact fun y => ⟨_, _, _, _, _, _, _, _, _, _, _, _, _, _, _, _, _, _, rfl, y⟩

theorem isT1_mk {a1 : Value} {K : Value → Prop} : isT1 (.tuple #[a1]) K = K a1 := by
  apply propext
  constructor
  · rintro ⟨x1, e, y⟩
    simp only [Value.tuple.injEq, Array.mk.injEq, List.cons.injEq, and_true] at e
    subst e
    exact y
  · exact fun y => ⟨_, rfl, y⟩

theorem isT2_mk {a1 a2 : Value} {K : Value → Value → Prop} : isT2 (.tuple #[a1, a2]) K = K a1 a2 := by
  apply propext
  constructor
  · rintro ⟨x1, x2, e, y⟩
    simp only [Value.tuple.injEq, Array.mk.injEq, List.cons.injEq, and_true] at e
    obtain ⟨rfl, rfl⟩ := e
    exact y
  · exact fun y => ⟨_, _, rfl, y⟩

theorem isT3_mk {a1 a2 a3 : Value} {K : Value → Value → Value → Prop} : isT3 (.tuple #[a1, a2, a3]) K = K a1 a2 a3 := by
  apply propext
  constructor
  · rintro ⟨x1, x2, x3, e, y⟩
    simp only [Value.tuple.injEq, Array.mk.injEq, List.cons.injEq, and_true] at e
    obtain ⟨rfl, rfl, rfl⟩ := e
    exact y
  · exact fun y => ⟨_, _, _, rfl, y⟩

theorem isT4_mk {a1 a2 a3 a4 : Value} {K : Value → Value → Value → Value → Prop} : isT4 (.tuple #[a1, a2, a3, a4]) K = K a1 a2 a3 a4 := by
  apply propext
  constructor
  · rintro ⟨x1, x2, x3, x4, e, y⟩
    simp only [Value.tuple.injEq, Array.mk.injEq, List.cons.injEq, and_true] at e
    obtain ⟨rfl, rfl, rfl, rfl⟩ := e
    exact y
  · exact fun y => ⟨_, _, _, _, rfl, y⟩

theorem isT5_mk {a1 a2 a3 a4 a5 : Value} {K : Value → Value → Value → Value → Value → Prop} : isT5 (.tuple #[a1, a2, a3, a4, a5]) K = K a1 a2 a3 a4 a5 := by
  apply propext
  constructor
  · rintro ⟨x1, x2, x3, x4, x5, e, y⟩
    simp only [Value.tuple.injEq, Array.mk.injEq, List.cons.injEq, and_true] at e
    obtain ⟨rfl, rfl, rfl, rfl, rfl⟩ := e
    exact y
  · exact fun y => ⟨_, _, _, _, _, rfl, y⟩

theorem exSl {x : Option Addr} {y z : Nat} {K : Option Addr → Nat → Nat → Prop} : (∃ b l c, Value.slice x y z = Value.slice b l c ∧ K b l c) = K x y z := by
  apply propext
  constructor
  · rintro ⟨b, l, c, e, k⟩
    simp only [Value.slice.injEq] at e
    obtain ⟨rfl, rfl, rfl⟩ := e
    exact k
  · exact fun k => ⟨_, _, _, rfl, k⟩

theorem st1_set {h : Heap} {b i : Nat} {cs : Array Value} {e : TypeId} {v : Value} {K : Heap → Prop} (hb : b < h.size) (hi : i < cs.size) :
    st1 (h.setIfInBounds b (.cells cs e (0, 0))) ⟨b, i, none⟩ v K = K (h.setIfInBounds b (.cells (cs.setIfInBounds i v) e (0, 0))) := by
  rw [st1_ev (at_set_self hb) hi]
  congr 1
  apply Array.ext_getElem?
  intro j
  simp only [Array.getElem?_setIfInBounds, Array.size_setIfInBounds]
  by_cases hj : b = j
  · simp [hj]
  · simp [hj]

theorem st1_push_lt {h : Heap} {o : Obj} {b i : Nat} {v : Value} {K : Heap → Prop} (hb : b < h.size) : st1 (h.push o) ⟨b, i, none⟩ v K = st1 h ⟨b, i, none⟩ v fun h' => K (h'.push o) := by
  unfold st1
  have e1 : hcell (h.push o) ⟨b, i, none⟩ = hcell h ⟨b, i, none⟩ := hcell_push_lt hb
  have e2 : hfrozen (h.push o) ⟨b, i, none⟩ = hfrozen h ⟨b, i, none⟩ := by rw [hfrozen_eq, hfrozen_eq, at_push_lt hb]
  have e3 : hset (h.push o) ⟨b, i, none⟩ v = (hset h ⟨b, i, none⟩ v).push o := by
    unfold hset World.setCell wd
    simp only [Option.isSome_none]
    apply Array.ext_getElem?
    intro j
    simp only [Array.getElem?_modify, Array.getElem?_push, Array.size_modify]
    by_cases hj : j = h.size
    · subst hj; simp [Nat.ne_of_lt hb]
    · simp [hj]
  rw [e1, e2, e3]

/-- Where ways meet, nothing forgotten. -/
theorem joinS_of {S : Type} {A : (S → Heap → Prop) → Prop} {R : (Nat → Value) → S → Heap → Prop} (x : A fun s h => ∀ g, R g s h) : joinS A R := ⟨_, x, fun g s h m => m g⟩

end Go.Rv
