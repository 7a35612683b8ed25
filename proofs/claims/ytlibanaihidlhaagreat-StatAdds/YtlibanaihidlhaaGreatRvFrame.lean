/- Heaps, block by block: what is there, what is kept, and how the printed words are gone through. -/
import Derived.Test.YtlibanaihidlhaaGreatRvWords
namespace Go.Rv
set_option linter.unusedVariables false
set_option linter.unusedSimpArgs false

/-- A row of cells, none of them a string's. -/
abbrev row (cs : Array Value) (e : TypeId) : Obj := .cells cs e (0, 0)

theorem hcell_eq (h : Heap) (b i : Nat) : hcell h ⟨b, i, none⟩ = match h[b]? with
    | some (.cells c _ _) => c[i]?
    | _ => none := by
  unfold hcell World.cell? wd
  simp only [Option.isSome_none]
  split <;> rename_i hh <;> simp only [hh] <;> rfl

theorem hfrozen_eq (h : Heap) (b i : Nat) : hfrozen h ⟨b, i, none⟩ = match h[b]? with
    | some (.cells _ _ (lo, hi)) => lo ≤ i && i < hi
    | _ => false := rfl

theorem add_mk (b i k : Nat) : (⟨b, i, none⟩ : Addr).add k = ⟨b, i + k, none⟩ := by
  unfold Addr.add
  split
  · rename_i e; subst e; rfl
  · rfl

theorem hcell_row {h : Heap} {b i : Nat} {cs : Array Value} {e : TypeId} {f : Nat × Nat} (x : h[b]? = some (.cells cs e f)) : hcell h ⟨b, i, none⟩ = cs[i]? := by
  rw [hcell_eq, x]

theorem hset_row {h : Heap} {b i : Nat} {cs : Array Value} {e : TypeId} {v : Value} (x : h[b]? = some (row cs e)) : hset h ⟨b, i, none⟩ v = h.setIfInBounds b (row (cs.setIfInBounds i v) e) := by
  unfold hset World.setCell wd
  simp only [Option.isSome_none]
  apply Array.ext_getElem?
  intro j
  rw [Array.getElem?_modify, Array.getElem?_setIfInBounds]
  by_cases hj : b = j
  · subst hj
    have hlt : b < h.size := by
      rcases Nat.lt_or_ge b h.size with h1 | h1
      · exact h1
      · rw [Array.getElem?_eq_none h1] at x; cases x
    rw [if_pos rfl, if_pos rfl, if_pos hlt, x]
    rfl
  · simp [hj]

theorem ldI_row {h : Heap} {b i : Nat} {cs : Array Value} {e : TypeId} {f : Nat × Nat} {k : IntKind} {n : Int} {K : Int → Prop} (x : h[b]? = some (.cells cs e f)) (v : cs[i]? = some (.int k n)) (y : K n) : ldI k h ⟨b, i, none⟩ K := ⟨n, by rw [hcell_row x, v], y⟩
theorem ldB_row {h : Heap} {b i : Nat} {cs : Array Value} {e : TypeId} {f : Nat × Nat} {n : Bool} {K : Bool → Prop} (x : h[b]? = some (.cells cs e f)) (v : cs[i]? = some (.bool n)) (y : K n) : ldB h ⟨b, i, none⟩ K := ⟨n, by rw [hcell_row x, v], y⟩
theorem ldS_row {h : Heap} {b i : Nat} {cs : Array Value} {e : TypeId} {f : Nat × Nat} {n : ByteArray} {K : ByteArray → Prop} (x : h[b]? = some (.cells cs e f)) (v : cs[i]? = some (.string n)) (y : K n) : ldS h ⟨b, i, none⟩ K := ⟨n, by rw [hcell_row x, v], y⟩
theorem ldP_row {h : Heap} {b i : Nat} {cs : Array Value} {e : TypeId} {f : Nat × Nat} {n : Option Addr} {K : Option Addr → Prop} (x : h[b]? = some (.cells cs e f)) (v : cs[i]? = some (.pointer n)) (y : K n) : ldP h ⟨b, i, none⟩ K := ⟨n, by rw [hcell_row x, v], y⟩
theorem ldM_row {h : Heap} {b i : Nat} {cs : Array Value} {e : TypeId} {f : Nat × Nat} {n : Option Nat} {K : Option Nat → Prop} (x : h[b]? = some (.cells cs e f)) (v : cs[i]? = some (.map n)) (y : K n) : ldM h ⟨b, i, none⟩ K := ⟨n, by rw [hcell_row x, v], y⟩
theorem ldSl_row {h : Heap} {b i : Nat} {cs : Array Value} {e : TypeId} {f : Nat × Nat} {a : Option Addr} {l c : Nat} {K : Option Addr → Nat → Nat → Prop} (x : h[b]? = some (.cells cs e f)) (v : cs[i]? = some (.slice a l c)) (y : K a l c) : ldSl h ⟨b, i, none⟩ K := ⟨a, l, c, by rw [hcell_row x, v], y⟩
theorem ldV_row {h : Heap} {b i : Nat} {cs : Array Value} {e : TypeId} {f : Nat × Nat} {n : Value} {K : Value → Prop} (x : h[b]? = some (.cells cs e f)) (v : cs[i]? = some n) (y : K n) : ldV h ⟨b, i, none⟩ K := ⟨n, by rw [hcell_row x, v], y⟩

theorem st1_row {h : Heap} {b i : Nat} {cs : Array Value} {e : TypeId} {v : Value} {K : Heap → Prop} (x : h[b]? = some (row cs e)) (hi : i < cs.size) (y : K (h.setIfInBounds b (row (cs.setIfInBounds i v) e))) : st1 h ⟨b, i, none⟩ v K :=
  ⟨⟨cs[i], by rw [hcell_row x]; exact Array.getElem?_eq_getElem hi⟩, by rw [hfrozen_eq, x]; simp, by rw [hset_row x]; exact y⟩

/-- What was there is kept, but for the blocks that T names. -/
structure Keep (T : Nat → Prop) (h h' : Heap) : Prop where
  size : h.size ≤ h'.size
  at_ : ∀ b, b < h.size → ¬ T b → h'[b]? = h[b]?

theorem Keep.refl (T : Nat → Prop) (h : Heap) : Keep T h h := ⟨Nat.le_refl _, fun _ _ _ => rfl⟩
theorem Keep.trans {T : Nat → Prop} {a b c : Heap} (x : Keep T a b) (y : Keep T b c) : Keep T a c := ⟨Nat.le_trans x.size y.size, fun i hi ht => by rw [y.at_ i (Nat.lt_of_lt_of_le hi x.size) ht, x.at_ i hi ht]⟩
theorem Keep.weaken {T T' : Nat → Prop} {a b : Heap} (x : Keep T a b) (h : ∀ b, b < a.size → T b → T' b) : Keep T' a b := ⟨x.size, fun i hi ht => x.at_ i hi fun e => ht (h i hi e)⟩
theorem Keep.push {T : Nat → Prop} {a b : Heap} (x : Keep T a b) (o : Obj) : Keep T a (b.push o) := ⟨by simp; exact Nat.le_succ_of_le x.size, fun i hi ht => by
  rw [Array.getElem?_push]
  rw [if_neg (by have := x.size; omega), x.at_ i hi ht]⟩
theorem Keep.set {T : Nat → Prop} {a b : Heap} (x : Keep T a b) {i : Nat} (o : Obj) (h : i < a.size → T i) : Keep T a (b.setIfInBounds i o) := ⟨by simpa using x.size, fun j hj ht => by
  rw [Array.getElem?_setIfInBounds_ne (by rintro rfl; exact ht (h hj)), x.at_ j hj ht]⟩
/-- Blocks that were not there yet may have been changed. -/
theorem Keep.old {T : Nat → Prop} {a b c : Heap} (x : Keep T a b) (y : Keep (fun i => T i ∨ a.size ≤ i) b c) : Keep T a c := ⟨Nat.le_trans x.size y.size, fun i hi ht => by
  rw [y.at_ i (Nat.lt_of_lt_of_le hi x.size) (by rintro (h | h); exact ht h; omega), x.at_ i hi ht]⟩

theorem at_push_self (h : Heap) (o : Obj) : (h.push o)[h.size]? = some o := by simp
theorem at_push_lt {h : Heap} {o : Obj} {b : Nat} (hb : b < h.size) : (h.push o)[b]? = h[b]? := by rw [Array.getElem?_push, if_neg (by omega)]
theorem at_push_of {h : Heap} {o : Obj} {b : Nat} {x : Obj} (hb : h[b]? = some x) : (h.push o)[b]? = some x := by
  have : b < h.size := by
    rcases Nat.lt_or_ge b h.size with h1 | h1
    · exact h1
    · rw [Array.getElem?_eq_none h1] at hb; cases hb
  rw [at_push_lt this, hb]
theorem lt_of_at {h : Heap} {b : Nat} {x : Obj} (hb : h[b]? = some x) : b < h.size := by
  rcases Nat.lt_or_ge b h.size with h1 | h1
  · exact h1
  · rw [Array.getElem?_eq_none h1] at hb; cases hb
theorem at_set_self {h : Heap} {b : Nat} {o : Obj} (hb : b < h.size) : (h.setIfInBounds b o)[b]? = some o := by simp [hb]
theorem at_set_ne {h : Heap} {b c : Nat} {o : Obj} (hb : b ≠ c) : (h.setIfInBounds b o)[c]? = h[c]? := Array.getElem?_setIfInBounds_ne hb

end Go.Rv
