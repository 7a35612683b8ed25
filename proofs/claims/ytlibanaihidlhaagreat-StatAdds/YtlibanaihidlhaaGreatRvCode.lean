/- Code over heaps: regions in order, tests, blocks, loops; and that it is sound. -/
import Derived.Test.YtlibanaihidlhaaGreatRvSound
import Derived.Tactics
namespace Go.Rv
set_option linter.unusedVariables false
set_option linter.unusedSimpArgs false

abbrev Fr := Nat → Value

def Fr.ev (fr : Fr) : Operand → Value
  | .tmp t => fr t
  | .const v => v
  | .global g => .pointer (some ⟨g, 0, none⟩)
  | .func f => .func (.func f) #[] #[]

/-- A slot is written, if it is one of n. -/
def Fr.put (n : Nat) (fr : Fr) (d : Option Nat) (v : Value) : Fr := match d with
  | none => fr
  | some d => match Nat.blt d n with
    | true => fun t => match Nat.beq t d with
      | true => v
      | false => fr t
    | false => fr

/-- The frame of a model's activation. -/
structure Fits (n : Nat) (fr : Fr) (a : Act) : Prop where
  size : a.tmps.size = n
  defers : a.defers = []
  at_ : ∀ t, a.tmps.getD t undef = fr t

theorem Fits.ev {n : Nat} {fr : Fr} {a : Act} (f : Fits n fr a) : a.eval = fr.ev := by
  funext x
  cases x with
  | tmp t => exact f.at_ t
  | const v => rfl
  | global g => rfl
  | func g => rfl

theorem Fr.put_some (n : Nat) (fr : Fr) (d : Nat) (v : Value) (t : Nat) : fr.put n (some d) v t = if d < n ∧ t = d then v else fr t := by
  unfold Fr.put
  cases hd : Nat.blt d n with
  | true =>
    have hd' : d < n := by simpa [Nat.blt_eq] using hd
    cases ht : Nat.beq t d with
    | true =>
      have : t = d := by simpa using Nat.eq_of_beq_eq_true ht
      simp [hd, ht, hd', this]
    | false =>
      have hne : t ≠ d := by intro e; subst e; simp at ht
      simp [hd, ht, hne]
  | false =>
    have hd' : ¬ d < n := by intro e; rw [← Nat.blt_eq] at e; rw [e] at hd; cases hd
    simp [hd, hd']

theorem Fits.put {n : Nat} {fr : Fr} {a : Act} (f : Fits n fr a) (d : Option Nat) (v : Value) : Fits n (fr.put n d v) (a.put d v) := by
  cases d with
  | none => exact f
  | some d =>
    refine ⟨by simp [Act.put, f.size], by simp [Act.put, f.defers], fun t => ?_⟩
    rw [Fr.put_some]
    have h := f.at_ t
    simp only [Act.put, Array.getD_eq_getD_getElem?] at h ⊢
    by_cases hd : d < n
    · by_cases ht : t = d
      · subst ht
        simp [f.size, hd]
      · rw [Array.getElem?_setIfInBounds_ne (by omega), h]
        simp [ht]
    · rw [Array.setIfInBounds_eq_of_size_le (by have := f.size; omega), h]
      simp [hd]

theorem Fits.yielded {n : Nat} {fr : Fr} {a : Act} (f : Fits n fr a) {ops : Array Oper} {j d : Nat} {b : Bool} (hj : (ops[j]?).bind (·.dst) = some d) (hb : fr d = .bool b) : yielded ops a.tmps j = some b := by
  unfold Go.yielded
  rw [hj]
  have h := f.at_ d
  rw [hb] at h
  have hd : d < a.tmps.size := by
    rcases Nat.lt_or_ge d a.tmps.size with h1 | h1
    · exact h1
    · simp [Array.getD_eq_getD_getElem?, Array.getElem?_eq_none h1, undef] at h
  have : a.tmps[d]? = some (.bool b) := by
    rw [Array.getD_eq_getD_getElem?, Array.getElem?_eq_getElem hd] at h
    simp only [Option.getD_some] at h
    rw [Array.getElem?_eq_getElem hd, h]
  simp [this]

theorem Fits.yielded_none {n : Nat} {fr : Fr} {a : Act} (f : Fits n fr a) {ops : Array Oper} {j d : Nat} {vs : Array Value} (hj : (ops[j]?).bind (·.dst) = some d) (hb : fr d = .tuple vs) : Go.yielded ops a.tmps j = none := by
  unfold Go.yielded
  rw [hj]
  have h := f.at_ d
  rw [hb, Array.getD_eq_getD_getElem?] at h
  simp only [Option.bind_some]
  cases hq : a.tmps[d]? with
  | none => rfl
  | some v => rw [hq] at h; simp only [Option.getD_some] at h; rw [h]

theorem fr_put_same {n : Nat} {fr : Fr} {d : Nat} {v : Value} (h : fr d = v) : fr.put n (some d) v = fr := by
  funext t
  rw [Fr.put_some]
  split
  · rename_i e; rw [e.2, h]
  · rfl

/-- One operation at a frame, its guard asked. -/
def stp (P : Program) (n : Nat) (ops : Array Oper) (o : Oper) (fr : Fr) (h : Heap) (K : Fr → Heap → Prop) : Prop :=
  match o.guard with
  | none => opV P o fr.ev h fun v h' => K (fr.put n o.dst v) h'
  | some (j, want) => match (ops[j]?).bind (·.dst) with
    | none => False
    | some d => match fr d with
      | .bool b => @Bool.rec (fun _ => Prop)
          (match want with
            | true => K ((fr.put n (some d) (.bool false)).put n o.dst undef) h
            | false => opV P o (fr.put n (some d) (.bool false)).ev h fun v h' => K ((fr.put n (some d) (.bool false)).put n o.dst v) h')
          (match want with
            | true => opV P o (fr.put n (some d) (.bool true)).ev h fun v h' => K ((fr.put n (some d) (.bool true)).put n o.dst v) h'
            | false => K ((fr.put n (some d) (.bool true)).put n o.dst undef) h)
          b
      | .tuple _ => K (fr.put n o.dst undef) h
      | _ => False

/-- Operations in this order. -/
def cwOps (P : Program) (n : Nat) (ops : Array Oper) : List Oper → Fr → Heap → (Fr → Heap → Prop) → Prop
  | [], fr, h, K => K fr h
  | o :: rest, fr, h, K => stp P n ops o fr h fun fr' h' => cwOps P n ops rest fr' h' K

/-- What the model owes at an exit. -/
def QS (n : Nat) (w0 : World) (Q : Exit → Fr → Heap → Prop) (e : Exit) (a : Act) (w : World) : Prop := ∃ fr, Fits n fr a ∧ Q e fr w.heap ∧ Kin w0 w

theorem oper_sound {P : Program} {n : Nat} {o : Oper} {fr : Fr} {a : Act} {w : World} {K : Fr → Heap → Prop} {next : Act → World → Prop} {Q : Exit → Act → World → Prop} (f : Fits n fr a)
    (x : opV P o fr.ev w.heap fun v h' => K (fr.put n o.dst v) h') (hn : ∀ fr' a' w', Fits n fr' a' → K fr' w'.heap → Kin w w' → next a' w') : o.wp P a w next Q := by
  obtain ⟨nx, w', hr, hk, kin⟩ := hw_run (execOp fr.ev o) w (opV_sound x)
  unfold Oper.wp
  rw [f.ev, hr]
  cases nx with
  | value v => exact hn _ _ _ (f.put o.dst v) hk kin
  | skip => exact hn _ _ _ (f.put o.dst undef) hk kin
  | enter g args =>
    refine (hk w' rfl).mono ?_
    rintro e w'' ⟨v, rfl, hv, kin'⟩
    exact hn _ _ _ (f.put o.dst v) hv (kin.trans kin')
  | _ => exact hk.elim

theorem stp_sound {P : Program} {n : Nat} {ops : Array Oper} {o : Oper} {fr : Fr} {a : Act} {w : World} {K : Fr → Heap → Prop} {next : Act → World → Prop} {Q : Exit → Act → World → Prop} (f : Fits n fr a)
    (x : stp P n ops o fr w.heap K) (hn : ∀ fr' a' w', Fits n fr' a' → K fr' w'.heap → Kin w w' → next a' w') :
    (Region.wanted o (yielded ops a.tmps) = true ∧ o.wp P a w next Q) ∨ (Region.wanted o (yielded ops a.tmps) = false ∧ next (a.put o.dst undef) w) := by
  unfold stp at x
  unfold Region.wanted
  cases hg : o.guard with
  | none =>
    rw [hg] at x
    exact .inl ⟨rfl, oper_sound f x hn⟩
  | some g =>
    obtain ⟨j, want⟩ := g
    rw [hg] at x
    simp only [] at x ⊢
    cases hd : (ops[j]?).bind (·.dst) with
    | none => rw [hd] at x; exact x.elim
    | some d =>
      rw [hd] at x
      simp only [] at x
      split at x
      · rename_i b hb
        rw [f.yielded hd hb]
        have same : ∀ c, b = c → fr.put n (some d) (.bool c) = fr := fun c e => fr_put_same (by rw [hb, e])
        cases b with
        | true =>
          simp only [same true rfl] at x
          cases want with
          | true => exact .inl ⟨rfl, oper_sound f x hn⟩
          | false => exact .inr ⟨rfl, hn _ _ _ (f.put o.dst undef) x (.refl _)⟩
        | false =>
          simp only [same false rfl] at x
          cases want with
          | false => exact .inl ⟨rfl, oper_sound f x hn⟩
          | true => exact .inr ⟨rfl, hn _ _ _ (f.put o.dst undef) x (.refl _)⟩
      · rename_i vs hb
        rw [f.yielded_none hd hb]
        exact .inr ⟨rfl, hn _ _ _ (f.put o.dst undef) x (.refl _)⟩
      · exact x.elim

theorem cwOps_sound {P : Program} {n : Nat} {ops : Array Oper} {w0 : World} {Q : Exit → Fr → Heap → Prop} : ∀ (l : List Oper) (fr : Fr) (a : Act) (w : World), Fits n fr a → Kin w0 w →
    cwOps P n ops l fr w.heap (Q .normal) → wpList P ops (QS n w0 Q) l a w
  | [], fr, a, w, f, kin, x => ⟨fr, f, x, kin⟩
  | o :: rest, fr, a, w, f, kin, x => by
    unfold wpList
    rcases stp_sound (Q := QS n w0 Q) f x fun fr' a' w' f' x' kin' => cwOps_sound rest fr' a' w' f' (kin.trans kin') x' with ⟨h1, h2⟩ | ⟨h1, h2⟩
    · rw [if_pos h1]; exact .inl h2
    · rw [if_neg (by simp [h1])]; exact h2

end Go.Rv
