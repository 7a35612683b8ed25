/- Maps as functions of their keys: what a block that is a map says of each key; looked up, stored into, deleted from, counted. -/
import Derived.Test.YtlibanaihidlhaaGreatRvGo
namespace Go.Rv
set_option linter.unusedVariables false
set_option linter.unusedSectionVars false
variable {κ : Type} [DecidableEq κ]

def upd (f : κ → Option Value) (k : κ) (v : Option Value) : κ → Option Value := fun x => if x = k then v else f x

theorem upd_same (f : κ → Option Value) (k : κ) (v : Option Value) : upd f k v k = v := if_pos rfl
theorem upd_ne (f : κ → Option Value) {k x : κ} (v : Option Value) (h : x ≠ k) : upd f k v x = f x := if_neg h

theorem Ents.has_look (es : Ents κ) (k : κ) : es.has k = (es.look k).isSome := by
  unfold Ents.has Ents.look
  induction es with
  | nil => rfl
  | cons e es ih =>
    simp only [List.any_cons, List.find?_cons]
    by_cases h : e.1 = k
    · simp [h]
    · simp [h, ih]

theorem Ents.look_nil (k : κ) : Ents.look ([] : Ents κ) k = none := rfl
theorem Ents.look_cons (e : κ × Value × Nat) (es : Ents κ) (k : κ) : Ents.look (e :: es) k = if e.1 = k then some e.2.1 else es.look k := by
  unfold Ents.look
  rw [List.find?_cons]
  by_cases h : e.1 = k
  · simp [h]
  · simp [h]

theorem Ents.look_put : ∀ (es : Ents κ) (k : κ) (v : Value) (c : Nat) (x : κ), (es.put k v c).look x = if x = k then some v else es.look x
  | [], k, v, c, x => by
    unfold Ents.put
    rw [Ents.look_cons]
    by_cases h : k = x
    · simp [h]
    · simp [h, Ne.symm h]
  | e :: es, k, v, c, x => by
    unfold Ents.put
    by_cases he : e.1 = k
    · simp only [he, if_true, Ents.look_cons]
      by_cases hx : k = x
      · simp [hx]
      · simp [hx, Ne.symm hx]
    · simp only [he, if_false, Ents.look_cons]
      rw [Ents.look_put es k v c x]
      by_cases hx : e.1 = x
      · have : x ≠ k := by rintro rfl; exact he hx
        simp [hx, this]
      · simp [hx]

theorem Ents.keys_put : ∀ (es : Ents κ) (k : κ) (v : Value) (c : Nat), (es.put k v c).map (·.1) = if es.has k then es.map (·.1) else es.map (·.1) ++ [k]
  | [], k, v, c => by simp [Ents.put, Ents.has]
  | e :: es, k, v, c => by
    unfold Ents.put Ents.has
    by_cases he : e.1 = k
    · simp [he]
    · have ih := Ents.keys_put es k v c
      unfold Ents.has at ih
      simp only [he, if_false, List.map_cons, ih, List.any_cons, decide_false, Bool.false_or]
      split <;> rfl

theorem Ents.has_iff (es : Ents κ) (k : κ) : es.has k = true ↔ k ∈ es.map (·.1) := by
  unfold Ents.has
  simp only [List.any_eq_true, decide_eq_true_eq, List.mem_map]

theorem Ents.nodup_put {es : Ents κ} (n : (es.map (·.1)).Nodup) (k : κ) (v : Value) (c : Nat) : ((es.put k v c).map (·.1)).Nodup := by
  rw [Ents.keys_put]
  split
  · exact n
  · rename_i h
    rw [List.nodup_append]
    refine ⟨n, by simp, ?_⟩
    intro a ha b hb
    simp only [List.mem_singleton] at hb
    subst hb
    rintro rfl
    exact h ((Ents.has_iff es a).2 ha)

theorem Ents.keys_del : ∀ (es : Ents κ) (k : κ), (es.map (·.1)).Nodup → (es.del k).map (·.1) = (es.map (·.1)).filter (fun x => x ≠ k)
  | [], k, _ => rfl
  | e :: es, k, n => by
    simp only [List.map_cons, List.nodup_cons] at n
    unfold Ents.del
    by_cases he : e.1 = k
    · simp only [he, if_true, List.map_cons, List.filter_cons]
      rw [if_neg (by simp)]
      symm
      rw [List.filter_eq_self]
      intro a ha
      simp only [decide_eq_true_eq]
      rintro rfl
      exact n.1 (he ▸ ha)
    · simp only [he, if_false, List.map_cons, List.filter_cons]
      rw [if_pos (by simpa using he), Ents.keys_del es k n.2]

theorem Ents.look_none_of {es : Ents κ} {k : κ} (h : k ∉ es.map (·.1)) : es.look k = none := by
  have := Ents.has_look es k
  rw [← Option.not_isSome_iff_eq_none, ← this]
  intro e
  exact h ((Ents.has_iff es k).1 e)

theorem Ents.look_del : ∀ (es : Ents κ) (k x : κ), (es.map (·.1)).Nodup → (es.del k).look x = if x = k then none else es.look x
  | [], k, x, _ => by simp [Ents.del, Ents.look]
  | e :: es, k, x, n => by
    simp only [List.map_cons, List.nodup_cons] at n
    unfold Ents.del
    by_cases he : e.1 = k
    · simp only [he, if_true, Ents.look_cons]
      by_cases hx : x = k
      · subst hx
        simp only [if_true]
        exact Ents.look_none_of (he ▸ n.1)
      · simp [hx, Ne.symm hx]
    · simp only [he, if_false, Ents.look_cons]
      rw [Ents.look_del es k x n.2]
      by_cases hx : e.1 = x
      · have : x ≠ k := by rintro rfl; exact he hx
        simp [hx, this]
      · simp [hx]

/-- A block is a map that says this of each key. -/
def MapIs (kf : κ → Value) (h : Heap) (r : Nat) (f : κ → Option Value) : Prop :=
  ∃ es c, h[r]? = some (.map (encE kf es) c) ∧ (es.map (·.1)).Nodup ∧ ∀ k, es.look k = f k

/-- The keys of which a map says something. -/
def KeysOf (f : κ → Option Value) (l : List κ) : Prop := l.Nodup ∧ ∀ k, k ∈ l ↔ (f k).isSome = true

theorem KeysOf.perm {f : κ → Option Value} {l l' : List κ} (x : KeysOf f l) (y : KeysOf f l') : l.Perm l' :=
  (List.perm_ext_iff_of_nodup x.1 y.1).2 fun k => (x.2 k).trans (y.2 k).symm

section
variable {kf : κ → Value} {h h' : Heap} {r : Nat} {f : κ → Option Value}

theorem MapIs.lt (x : MapIs kf h r f) : r < h.size := let ⟨_, _, y, _⟩ := x; lt_of_at y
theorem MapIs.keep {T : Nat → Prop} (k : Keep T h h') (hr : ¬ T r) (x : MapIs kf h r f) : MapIs kf h' r f :=
  let ⟨es, c, y, n, l⟩ := x; ⟨es, c, (k.at_ r (lt_of_at y) hr).trans y, n, l⟩
theorem MapIs.same (k : Same h h') (x : MapIs kf h r f) : MapIs kf h' r f := MapIs.keep k id x
theorem MapIs.empty (x : h[r]? = some (.map #[] 0)) : MapIs kf h r (fun _ => none) := ⟨[], 0, x, by simp, fun _ => rfl⟩
theorem MapIs.congr {g : κ → Option Value} (x : MapIs kf h r f) (e : ∀ k, f k = g k) : MapIs kf h r g := let ⟨es, c, y, n, l⟩ := x; ⟨es, c, y, n, fun k => (l k).trans (e k)⟩
theorem MapIs.keys (x : MapIs kf h r f) : ∃ l, KeysOf f l := by
  obtain ⟨es, c, y, n, l⟩ := x
  refine ⟨_, n, fun k => ?_⟩
  rw [← l k, ← Ents.has_look, Ents.has_iff]
theorem MapIs.inj {g : κ → Option Value} (hk : ∀ a b, kf a = kf b → a = b) (x : MapIs kf h r f) (y : MapIs kf h r g) : f = g := by
  obtain ⟨es, c, y1, n, l⟩ := x
  obtain ⟨es', c', y1', n', l'⟩ := y
  rw [y1] at y1'
  simp only [Option.some.injEq, Obj.map.injEq] at y1'
  have e : es = es' := by
    have := y1'.1
    unfold encE at this
    have this := congrArg Array.toList this
    simp only at this
    apply List.map_inj_right ?_ |>.1 this
    rintro ⟨a, b, c⟩ ⟨a', b', c'⟩ e
    simp only [MapEntry.mk.injEq] at e
    obtain ⟨e1, rfl, rfl⟩ := e
    rw [hk _ _ e1]
  subst e
  funext k
  rw [← l k, ← l' k]

/-- Looked up. -/
theorem gLk {z : Value} {k : κ} {K : Value → Bool → Prop} (x : MapIs kf h r f) (y : K ((f k).getD z) (f k).isSome) : lkP kf h (some r) k z K := by
  obtain ⟨es, c, x, n, l⟩ := x
  refine lkP_at x ?_
  rw [Ents.has_look, l k]
  exact y
/-- Stored. -/
theorem gPut {k : κ} {v : Value} {K : Heap → Prop} (x : MapIs kf h r f) (y : ∀ h', Keep (fun x => x = r) h h' → h'.size = h.size → MapIs kf h' r (upd f k (some v)) → K h') : mputP kf h (some r) k v K := by
  obtain ⟨es, c, x, n, l⟩ := x
  refine mputP_at x (y _ ((Keep.refl _ _).set _ fun _ => rfl) (by simp) ⟨_, _, at_set_self (lt_of_at x), Ents.nodup_put n k v c, fun q => ?_⟩)
  rw [Ents.look_put, l q]
  rfl
/-- Deleted. -/
theorem gDel {k : κ} {K : Heap → Prop} (x : MapIs kf h r f) (y : ∀ h', Keep (fun x => x = r) h h' → h'.size = h.size → MapIs kf h' r (upd f k none) → K h') : mdelP kf h (some r) k K := by
  obtain ⟨es, c, x, n, l⟩ := x
  refine mdelP_at x (y _ ((Keep.refl _ _).set _ fun _ => rfl) (by simp) ⟨_, _, at_set_self (lt_of_at x), ?_, fun q => ?_⟩)
  · rw [Ents.keys_del es k n]; exact n.filter _
  · rw [Ents.look_del es k q n, l q]; rfl
/-- Counted. -/
theorem gLen {l : List κ} {K : Int → Prop} (x : MapIs kf h r f) (k : KeysOf f l) (y : K (l.length : Nat)) : mlenP h (some r) K := by
  obtain ⟨es, c, x, n, e⟩ := x
  refine mlenP_at x ?_
  have p : (es.map (·.1)).Perm l := KeysOf.perm (f := f) ⟨n, fun q => by rw [← e q, ← Ents.has_look, Ents.has_iff]⟩ k
  have := p.length_eq
  rw [List.length_map] at this
  rw [this]
  exact y
/-- A new map. -/
theorem gNm {K : Nat → Heap → Prop} (z : ∀ b h', Same h h' → b = h.size → b < h'.size → h.size ≤ h'.size → MapIs (Value.int .i64) h' b (fun _ => none) → MapIs Value.string h' b (fun _ => none) → MapIs trip h' b (fun _ => none) → K b h') : nwP h (.map #[] 0) K :=
  z h.size _ (same_push _ _) rfl (by simp) (by simp) (.empty (at_push_self _ _)) (.empty (at_push_self _ _)) (.empty (at_push_self _ _))
end
end Go.Rv
