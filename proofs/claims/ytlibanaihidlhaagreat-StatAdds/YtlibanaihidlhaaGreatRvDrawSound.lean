/- A region that draws its order: sound, in whatever order it is gone through. -/
import Derived.Test.YtlibanaihidlhaaGreatRvCongr
namespace Go.Rv
set_option linter.unusedVariables false
set_option linter.unusedSimpArgs false

/-! ### Orders that keep to the edges -/

/-- A list goes on from what is done: each operation behind those that it waits for, until all are done. -/
def Lin (ops : Array Oper) : List Nat → List Nat → Prop
  | D, [] => ∀ i, i < ops.size → i ∈ D
  | D, i :: s => i < ops.size ∧ i ∉ D ∧ (∀ j ∈ preds ops i, j ∈ D) ∧ Lin ops (i :: D) s

theorem binds_any {m : Region.Mode} {e : Edge} (h : Region.binds .any e = true) : Region.binds m e = true := by
  unfold Region.binds at h ⊢
  cases hg : e.ground <;> rw [hg] at h <;> first | rfl | (cases h)

theorem filter_drop : ∀ (l : List Nat) (p : Nat → Bool) (i : Nat), l.Nodup → i ∈ l → p i = true → (l.filter fun x => p x && !(x == i)).length + 1 = (l.filter p).length
  | [], p, i, _, h, _ => by cases h
  | a :: l, p, i, hn, h, hp => by
    have hn' := List.nodup_cons.1 hn
    by_cases ha : a = i
    · subst ha
      have : (l.filter fun x => p x && !(x == a)) = l.filter p := by
        apply List.filter_congr
        intro x hx
        have : x ≠ a := fun e => hn'.1 (e ▸ hx)
        simp [this]
      simp [hp, this]
    · have hm : i ∈ l := (List.mem_cons.1 h).resolve_left (fun e => ha e.symm)
      have ih := filter_drop l p i hn'.2 hm hp
      by_cases hpa : p a = true
      · simp [hpa, ha]; omega
      · simp [hpa]; exact ih

theorem lin_go {ops : Array Oper} (hpre : ∀ (i j : Nat), j ∈ preds ops i → j < i) : ∀ (fuel t : Nat) (listed : Array Bool) (acc : List Nat) (D : List Nat),
    listed.size = ops.size → (∀ i, i < ops.size → (listed.getD i true = true ↔ i ∈ D)) → ((List.range ops.size).filter fun i => !listed.getD i true).length = fuel →
    ∃ s, Region.linearise.go .any ops fuel t listed acc = acc.reverse ++ s ∧ Lin ops D s
  | 0, t, listed, acc, D, hsz, hD, hf => by
    refine ⟨[], by simp [Region.linearise.go], ?_⟩
    intro i hi
    rw [← hD i hi]
    have h0 : (List.range ops.size).filter (fun i => !listed.getD i true) = [] := List.length_eq_zero_iff.1 hf
    have := List.filter_eq_nil_iff.1 h0 i (List.mem_range.2 hi)
    simpa using this
  | fuel + 1, t, listed, acc, D, hsz, hD, hf => by
    unfold Region.linearise.go
    simp only []
    generalize hrs : ((List.range ops.size).filter fun i => !listed.getD i true && ((ops[i]?).map (·.after.all fun e => !Region.binds .any e || listed.getD e.on false)).getD false) = rs
    cases hp : rs[t % rs.length]? with
    | none =>
      -- nothing is ready: then all is listed, but there is something left
      exfalso
      have hnil : rs = [] := by
        cases rs with
        | nil => rfl
        | cons a l =>
          have hlt : t % (a :: l).length < (a :: l).length := Nat.mod_lt _ (by simp)
          rw [List.getElem?_eq_getElem hlt] at hp
          cases hp
      have hall : ∀ i, i < ops.size → listed.getD i true = true := by
        intro i
        induction i using Nat.strongRecOn with
        | _ i ih =>
          intro hi
          cases hl : listed.getD i true with
          | true => rfl
          | false =>
            exfalso
            have hmem : i ∈ rs := by
              rw [← hrs]
              refine List.mem_filter.2 ⟨List.mem_range.2 hi, ?_⟩
              simp only [hl, Bool.not_false, Bool.true_and]
              rw [Array.getElem?_eq_getElem hi]
              simp only [Option.map_some, Option.getD_some]
              rw [Array.all_eq_true']
              intro e he
              cases hbe : Region.binds .any e with
              | false => rfl
              | true =>
              have hlt := hpre i e.on (by
                unfold preds
                rw [Array.getElem?_eq_getElem hi]
                exact List.mem_map.2 ⟨e, List.mem_filter.2 ⟨Array.mem_toList_iff.2 he, hbe⟩, rfl⟩)
              have h1 := ih e.on hlt (by omega)
              have h2 : listed.getD e.on false = true := by
                simp only [Array.getD_eq_getD_getElem?] at h1 ⊢
                rw [Array.getElem?_eq_getElem (by omega)] at h1 ⊢
                simpa using h1
              simp [h2]
            rw [hnil] at hmem
            cases hmem
      have : ((List.range ops.size).filter fun i => !listed.getD i true) = [] := by
        apply List.filter_eq_nil_iff.2
        intro i hi
        simp [hall i (List.mem_range.1 hi)]
      rw [this] at hf
      cases hf
    | some i =>
      have him : i ∈ rs := List.mem_of_getElem? hp
      rw [← hrs] at him
      obtain ⟨hir, hcond⟩ := List.mem_filter.1 him
      have hi : i < ops.size := List.mem_range.1 hir
      simp only [Bool.and_eq_true, Bool.not_eq_true'] at hcond
      obtain ⟨hl, hready⟩ := hcond
      have hiD : i ∉ D := by
        intro hd
        rw [← hD i hi] at hd
        rw [hd] at hl; cases hl
      have hset : ∀ x, x < ops.size → (listed.setIfInBounds i true).getD x true = (listed.getD x true || (x == i)) := by
        intro x hx
        simp only [Array.getD_eq_getD_getElem?]
        by_cases e : x = i
        · subst e; simp [hsz, hx]
        · rw [Array.getElem?_setIfInBounds_ne (by omega)]
          simp [e]
      obtain ⟨s, hs, hlin⟩ := lin_go hpre fuel (t / rs.length) (listed.setIfInBounds i true) (i :: acc) (i :: D) (by simp [hsz]) (by
        intro x hx
        rw [hset x hx, Bool.or_eq_true, hD x hx, List.mem_cons]
        simp [or_comm]) (by
        have h1 := filter_drop (List.range ops.size) (fun x => !listed.getD x true) i List.nodup_range (List.mem_range.2 hi) (by simp [hl])
        rw [hf] at h1
        have h2 : ((List.range ops.size).filter fun x => !(listed.setIfInBounds i true).getD x true) = (List.range ops.size).filter fun x => !listed.getD x true && !(x == i) := by
          apply List.filter_congr
          intro x hx
          rw [hset x (List.mem_range.1 hx), Bool.not_or]
        rw [h2]
        omega)
      refine ⟨i :: s, by simp only []; rw [hs]; simp, hi, hiD, ?_, hlin⟩
      intro j hj
      unfold preds at hj
      cases ho : ops[i]? with
      | none => rw [ho] at hj; cases hj
      | some o =>
        rw [ho] at hj hready
        simp only [Option.map_some, Option.getD_some] at hready
        obtain ⟨e, he, rfl⟩ := List.mem_map.1 hj
        obtain ⟨he1, he2⟩ := List.mem_filter.1 he
        have := Array.all_eq_true'.1 hready e (Array.mem_toList_iff.1 he1)
        rw [he2] at this
        simp only [Bool.not_true, Bool.false_or] at this
        have hjlt : e.on < ops.size := by
          have := hpre i e.on (by unfold preds; rw [ho]; exact hj)
          omega
        rw [← hD _ hjlt]
        simp only [Array.getD_eq_getD_getElem?] at this ⊢
        rw [Array.getElem?_eq_getElem (by omega)] at this ⊢
        simpa using this

theorem lin_schedule {ops : Array Oper} (hpre : ∀ (i j : Nat), j ∈ preds ops i → j < i) (t : Nat) : Lin ops [] (Region.schedule true ops t) := by
  unfold Region.schedule
  simp only [Bool.true_or, if_true]
  unfold Region.linearise
  obtain ⟨s, hs, hl⟩ := lin_go hpre ops.size t (Array.replicate ops.size false) [] [] (by simp) (by
    intro i hi
    simp [Array.getD_eq_getD_getElem?, Array.getElem?_replicate, hi]) (by
    have : ((List.range ops.size).filter fun i => !(Array.replicate ops.size false).getD i true) = List.range ops.size := by
      apply List.filter_eq_self.2
      intro i hi
      simp [Array.getD_eq_getD_getElem?, Array.getElem?_replicate, List.mem_range.1 hi]
    rw [this]; simp)
  rw [hs]
  simpa using hl

/-! ### One operation, by its value -/

def stv (P : Program) (ops : Array Oper) (o : Oper) (fr : Fr) (h : Heap) (K : Value → Heap → Prop) : Prop :=
  match o.guard with
  | none => opV P o fr.ev h K
  | some (j, want) => match (ops[j]?).bind (·.dst) with
    | none => False
    | some d => match fr d with
      | .bool b => if b = want then opV P o fr.ev h K else K undef h
      | .tuple _ => K undef h
      | _ => False

theorem stp_stv {P : Program} {n : Nat} {ops : Array Oper} {o : Oper} {fr : Fr} {h : Heap} {K : Fr → Heap → Prop} :
    stp P n ops o fr h K ↔ stv P ops o fr h fun v h' => K (fr.put n o.dst v) h' := by
  unfold stp stv
  cases hg : o.guard with
  | none => exact Iff.rfl
  | some g =>
    obtain ⟨j, want⟩ := g
    simp only []
    cases hd : (ops[j]?).bind (·.dst) with
    | none => exact Iff.rfl
    | some d =>
      simp only []
      cases hf : fr d <;> simp only []
      rename_i b
      cases b with
      | true =>
        simp only [fr_put_same (n := n) hf]
        cases want <;> simp
      | false =>
        simp only [fr_put_same (n := n) hf]
        cases want <;> simp

theorem stv_mono {P : Program} {ops : Array Oper} {o : Oper} {fr : Fr} {h : Heap} {K K' : Value → Heap → Prop} (hk : ∀ v h, K v h → K' v h) (x : stv P ops o fr h K) : stv P ops o fr h K' := by
  unfold stv at x ⊢
  split at x
  · exact opV_mono hk x
  · split at x
    · exact x.elim
    · split at x
      · split at x
        · rename_i e; rw [if_pos e]; exact opV_mono hk x
        · rename_i e; rw [if_neg e]; exact hk _ _ x
      · exact hk _ _ x
      · exact x.elim

/-- The slots that an operation reads. -/
def Reads (ops : Array Oper) (o : Oper) (t : Nat) : Prop := Operand.tmp t ∈ o.op.operands ∨ ∃ j w, o.guard = some (j, w) ∧ (ops[j]?).bind (·.dst) = some t

theorem ev_congr {o : Oper} {fr fr' : Fr} (h : ∀ t, Operand.tmp t ∈ o.op.operands → fr t = fr' t) : ∀ x ∈ o.op.operands, fr.ev x = fr'.ev x := by
  intro x hx
  cases x with
  | tmp t => exact h t hx
  | const v => rfl
  | global g => rfl
  | func f => rfl

theorem noSel_iff {o : Oper} (h : noSel o = true) : ∀ cs b, o.op ≠ .select cs b := by
  intro cs b e
  unfold noSel at h
  rw [e] at h
  cases h

theorem stv_congr {P : Program} {ops : Array Oper} {o : Oper} {fr fr' : Fr} {h : Heap} {K : Value → Heap → Prop} (hs : noSel o = true) (hr : ∀ t, Reads ops o t → fr t = fr' t) (x : stv P ops o fr h K) : stv P ops o fr' h K := by
  have he : opV P o fr.ev h K = opV P o fr'.ev h K := opV_congr (noSel_iff hs) (ev_congr fun t ht => hr t (.inl ht))
  unfold stv at x ⊢
  cases hg : o.guard with
  | none => simp only [hg] at x ⊢; rw [← he]; exact x
  | some g =>
    obtain ⟨j, w⟩ := g
    simp only [hg] at x ⊢
    cases hd : (ops[j]?).bind (·.dst) with
    | none => simp only [hd] at x
    | some d =>
      simp only [hd] at x ⊢
      rw [← hr d (.inr ⟨j, w, hg, hd⟩), ← he]
      exact x

theorem opV_read {P : Program} {o : Oper} {ρ : Operand → Value} {h : Heap} {K : Value → Heap → Prop} (hr : readB P o = true) (x : opV P o ρ h K) :
    ∃ v, K v h ∧ ∀ (h' : Heap) (K' : Value → Heap → Prop), (pureB P o = true ∨ h' = h) → K' v h' → opV P o ρ h' K' := by
  unfold opV at x ⊢
  cases hp : pureB P o with
  | true =>
    simp only [hp] at x ⊢
    obtain ⟨v, hv, hk⟩ := det_pure (fun v => K v h) x
    exact ⟨v, hv, fun h' K' _ y => hk (fun v => K' v h') y⟩
  | false =>
    simp only [hp] at x ⊢
    have hh : heapB P o = true := by unfold readB at hr; rw [hp] at hr; simpa using hr
    simp only [hh] at x ⊢
    obtain ⟨v, hv, hk⟩ := det_heap (fun v => K v h) x
    refine ⟨v, hv, fun h' K' e y => ?_⟩
    rcases e with e | rfl
    · cases e
    · exact hk (fun v => K' v h') y

theorem stv_read {P : Program} {ops : Array Oper} {o : Oper} {fr : Fr} {h : Heap} {K : Value → Heap → Prop} (hr : readB P o = true) (x : stv P ops o fr h K) :
    ∃ v, K v h ∧ ∀ (h' : Heap) (K' : Value → Heap → Prop), (pureB P o = true ∨ h' = h) → K' v h' → stv P ops o fr h' K' := by
  unfold stv at x ⊢
  cases hg : o.guard with
  | none => simp only [hg] at x ⊢; exact opV_read hr x
  | some g =>
    obtain ⟨j, w⟩ := g
    simp only [hg] at x ⊢
    cases hd : (ops[j]?).bind (·.dst) with
    | none => simp only [hd] at x
    | some d =>
      simp only [hd] at x ⊢
      cases hf : fr d <;> simp only [hf] at x ⊢
      case tuple => exact ⟨_, x, fun _ _ _ y => y⟩
      rename_i b
      by_cases e : b = w
      · simp only [e, if_true] at x ⊢; exact opV_read hr x
      · simp only [if_neg e] at x ⊢; exact ⟨_, x, fun _ _ _ y => y⟩

/-! ### What the checks say -/

/-- A slot is written by one of these. -/
def W (ops : Array Oper) (n : Nat) (X : Nat → Prop) (t : Nat) : Prop := t < n ∧ ∃ i, X i ∧ (ops[i]?).bind (·.dst) = some t

structure Snd (P : Program) (ops : Array Oper) (tab : List (List Nat)) : Prop where
  sel : ∀ (i : Nat) (o : Oper), ops[i]? = some o → noSel o = true
  pre : ∀ (i j : Nat), j ∈ preds ops i → j < i
  cl : ∀ (i j : Nat), i < ops.size → ancOf tab j i = true → j ∈ preds ops i ∨ ∃ m ∈ preds ops i, ancOf tab j m = true
  one : ∀ (i j t : Nat), (ops[i]?).bind (·.dst) = some t → (ops[j]?).bind (·.dst) = some t → i = j
  rd : ∀ (i : Nat) (o : Oper) (j t : Nat), ops[i]? = some o → (ops[j]?).bind (·.dst) = some t → Reads ops o t → ancOf tab j i = true ∨ (i ≠ j ∧ ancOf tab i j = true ∧ hpOf P ops i = false)

theorem allT {α : Type} {l : List α} {p : α → Bool} (h : l.all p = true) : ∀ x ∈ l, p x = true := List.all_eq_true.1 h

theorem readsSlot_iff {o : Oper} {d : Nat} : readsSlot o d = true ↔ Operand.tmp d ∈ o.op.operands := by
  unfold readsSlot
  rw [Array.any_eq_true']
  constructor
  · rintro ⟨x, hx, h⟩
    cases x <;> simp only [Bool.false_eq_true] at h
    rename_i t
    have : t = d := Nat.eq_of_beq_eq_true h
    subst this; exact hx
  · intro h; exact ⟨_, h, by simp⟩

theorem snd_of {P : Program} {ops : Array Oper} {tab : List (List Nat)} (h : soundB ops (hpOf P ops) tab = true) : Snd P ops tab := by
  unfold soundB at h
  have h' : ∀ i o, ops[i]? = some o → (noSel o = true ∧ (∀ j ∈ preds ops i, j < i) ∧ (∀ j, ancOf tab j i = true → j ∈ preds ops i ∨ ∃ m ∈ preds ops i, ancOf tab j m = true)) ∧
      (∀ j p d, ops[j]? = some p → p.dst = some d → if i = j then readsSlot o d = false else (o.dst ≠ some d) ∧ (ancOf tab j i = true ∨ (ancOf tab i j = true ∧ hpOf P ops i = false) ∨ readsSlot o d = false)) ∧
      (∀ g w, o.guard = some (g, w) → ancOf tab g i = true ∧ g < ops.size) := by
    intro i o ho
    have hi : i < ops.size := by
      rcases Nat.lt_or_ge i ops.size with h1 | h1
      · exact h1
      · rw [Array.getElem?_eq_none h1] at ho; cases ho
    have hx := allT h i (List.mem_range.2 hi)
    simp only [ho, Bool.and_eq_true] at hx
    obtain ⟨⟨⟨⟨h1, h2⟩, h3⟩, h4⟩, h5⟩ := hx
    refine ⟨⟨h1, fun j hj => ?_, fun j hj => ?_⟩, fun j p d hp hd => ?_, fun g w hg => ?_⟩
    · have := allT h2 j hj
      rw [Nat.blt_eq] at this; exact this
    · have hj' : j ∈ tab.getD i [] := memB_iff.1 hj
      have := allT h3 j hj'
      rw [Bool.or_eq_true] at this
      rcases this with h | h
      · exact .inl (memB_iff.1 h)
      · obtain ⟨m, hm, h⟩ := List.any_eq_true.1 h
        exact .inr ⟨m, hm, h⟩
    · have hj : j < ops.size := by
        rcases Nat.lt_or_ge j ops.size with h1 | h1
        · exact h1
        · rw [Array.getElem?_eq_none h1] at hp; cases hp
      have := allT h4 j (List.mem_range.2 hj)
      simp only [hp, hd] at this
      by_cases e : i = j
      · rw [if_pos e]
        subst e
        simp only [Nat.beq_refl] at this
        simpa using this
      · rw [if_neg e]
        have e' : Nat.beq i j = false := by
          cases hb : Nat.beq i j with
          | false => rfl
          | true => exact (e (Nat.eq_of_beq_eq_true hb)).elim
        simp only [e', Bool.and_eq_true, Bool.or_eq_true, Bool.not_eq_true'] at this
        refine ⟨?_, ?_⟩
        · intro hod
          have h1 := this.1
          rw [hod] at h1
          simp at h1
        · rcases this.2 with (h | h) | h
          · exact .inl h
          · exact .inr (.inl h)
          · exact .inr (.inr h)
    · simp only [hg, Bool.and_eq_true, Nat.blt_eq] at h5
      exact h5
  have get : ∀ {i t : Nat}, (ops[i]?).bind (·.dst) = some t → ∃ o, ops[i]? = some o ∧ o.dst = some t := by
    intro i t hb
    cases ho : ops[i]? with
    | none => rw [ho] at hb; cases hb
    | some o => rw [ho] at hb; exact ⟨o, rfl, hb⟩
  have one : ∀ (i j t : Nat), (ops[i]?).bind (·.dst) = some t → (ops[j]?).bind (·.dst) = some t → i = j := by
    intro i j t hi hj
    obtain ⟨o, ho, hd⟩ := get hi
    obtain ⟨p, hp, hd'⟩ := get hj
    have := (h' i o ho).2.1 j p t hp hd'
    by_cases e : i = j
    · exact e
    · rw [if_neg e] at this; exact (this.1 hd).elim
  refine ⟨fun i o ho => (h' i o ho).1.1, fun i j hj => ?_, fun i j hi hj => ?_, one, fun i o j t ho hj hr => ?_⟩
  · cases ho : ops[i]? with
    | none => unfold preds at hj; rw [ho] at hj; cases hj
    | some o => exact (h' i o ho).1.2.1 j hj
  · exact (h' i _ (Array.getElem?_eq_getElem hi)).1.2.2 j hj
  · obtain ⟨p, hp, hd⟩ := get hj
    have h2 := (h' i o ho).2.1 j p t hp hd
    rcases hr with hr | ⟨g, w, hg, hgt⟩
    · have hr' := readsSlot_iff.2 hr
      by_cases e : i = j
      · rw [if_pos e, hr'] at h2; cases h2
      · rw [if_neg e, hr'] at h2
        rcases h2.2 with h | h | h
        · exact .inl h
        · exact .inr ⟨e, h⟩
        · cases h
    · have : g = j := one g j t hgt hj
      subst this
      exact .inl ((h' i o ho).2.2 g w hg).1

end Go.Rv
