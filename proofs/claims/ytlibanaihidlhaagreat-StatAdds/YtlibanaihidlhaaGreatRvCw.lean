/- Code over heaps, with the slots that live at loops and meetings told: sound for the model's own. -/
import Derived.Test.YtlibanaihidlhaaGreatRvDraw
namespace Go.Rv
set_option linter.unusedVariables false
set_option linter.unusedSimpArgs false

def CK.T : CK → Type
  | .int _ => Int
  | .bool => Bool
  | .str => ByteArray
  | .ptr => Option Addr
  | .slice => Option Addr × Nat × Nat
  | .map => Option Nat
  | .any => Value

def CK.enc : (k : CK) → k.T → Value
  | .int k, n => .int k n
  | .bool, b => .bool b
  | .str, s => .string s
  | .ptr, p => .pointer p
  | .slice, s => .slice s.1 s.2.1 s.2.2
  | .map, r => .map r
  | .any, v => v

def CK.dec : (k : CK) → Value → Option k.T
  | .int k, .int k' n => match decide (k = k') with
    | true => some n
    | false => none
  | .bool, .bool b => some b
  | .str, .string s => some s
  | .ptr, .pointer p => some p
  | .slice, .slice a l c => some (a, l, c)
  | .map, .map r => some r
  | .any, v => some v
  | _, _ => none

theorem CK.enc_dec {k : CK} {v : Value} {x : k.T} (h : k.dec v = some x) : k.enc x = v := by
  cases k with
  | int k =>
    cases v <;> first | (simp only [CK.dec, reduceCtorEq] at h; done) | skip
    rename_i k' n
    unfold CK.dec at h
    simp only [] at h
    cases hq : decide (k = k') with
    | true =>
      simp only [hq] at h
      injection h with h
      subst h
      have := of_decide_eq_true hq
      subst this
      rfl
    | false => simp only [hq, reduceCtorEq] at h
  | any => unfold CK.dec at h; injection h with h; subst h; rfl
  | _ => cases v <;> first
    | (simp only [CK.dec, reduceCtorEq] at h; done)
    | (unfold CK.dec at h; injection h with h; subst h; rfl)

def Ts : List CK → Type
  | [] => Unit
  | k :: ks => k.T × Ts ks

def encs : (ks : List CK) → Ts ks → List Value
  | [], _ => []
  | k :: ks, x => k.enc x.1 :: encs ks x.2

def decs : (ks : List CK) → List Value → Option (Ts ks)
  | [], [] => some ()
  | k :: ks, v :: vs => match k.dec v with
    | none => none
    | some x => match decs ks vs with
      | none => none
      | some y => some (x, y)
  | _, _ => none

theorem encs_decs : ∀ {ks : List CK} {vs : List Value} {x : Ts ks}, decs ks vs = some x → encs ks x = vs
  | [], [], _, _ => rfl
  | [], _ :: _, _, h => by simp [decs] at h
  | _ :: _, [], _, h => by simp [decs] at h
  | k :: ks, v :: vs, x, h => by
    unfold decs at h
    cases hv : k.dec v with
    | none => simp [hv] at h
    | some a =>
      cases hr : decs ks vs with
      | none => simp [hv, hr] at h
      | some b =>
        simp only [hv, hr] at h
        injection h with h
        subst h
        simp [encs, CK.enc_dec hv, encs_decs hr]

/-- A slot's kind: a cell's, or an aggregate of cells. -/
inductive SlK where
  | one (k : CK) | agg (ks : List CK)

def SlK.T : SlK → Type
  | .one k => k.T
  | .agg ks => Ts ks

def SlK.enc : (k : SlK) → k.T → Value
  | .one k, x => k.enc x
  | .agg ks, x => .agg (encs ks x).toArray

def SlK.dec : (k : SlK) → Value → Option k.T
  | .one k, v => k.dec v
  | .agg ks, .agg vs => decs ks vs.toList
  | .agg _, _ => none

theorem SlK.enc_dec {k : SlK} {v : Value} {x : k.T} (h : k.dec v = some x) : k.enc x = v := by
  cases k with
  | one k => exact CK.enc_dec h
  | agg ks =>
    cases v <;> simp only [SlK.dec, reduceCtorEq] at h
    simp [SlK.enc, encs_decs h]

abbrev Live := List (Nat × SlK)

def St : Live → Type
  | [] => Unit
  | [(_, k)] => k.T
  | (_, k) :: p :: r => k.T × St (p :: r)

def encSt : (l : Live) → St l → Fr → Fr
  | [], _, fr => fr
  | [(d, k)], s, fr => fun t => match Nat.beq t d with
    | true => k.enc s
    | false => fr t
  | (d, k) :: p :: r, s, fr => fun t => match Nat.beq t d with
    | true => k.enc s.1
    | false => encSt (p :: r) s.2 fr t

def decSt : (l : Live) → Fr → Option (St l)
  | [], _ => some ()
  | [(d, k)], fr => k.dec (fr d)
  | (d, k) :: p :: r, fr => match k.dec (fr d) with
    | none => none
    | some x => match decSt (p :: r) fr with
      | none => none
      | some y => some (x, y)

theorem enc_decSt : ∀ {l : Live} {fr base : Fr} {s : St l}, decSt l fr = some s → (∀ t, t ∉ l.map (·.1) → base t = fr t) → encSt l s base = fr
  | [], fr, base, s, _, hb => funext fun t => hb t (by simp)
  | [(d, k)], fr, base, s, h, hb => by
    funext t
    unfold encSt
    cases ht : Nat.beq t d with
    | true => have : t = d := Nat.eq_of_beq_eq_true ht
              subst this
              exact SlK.enc_dec h
    | false => refine hb t ?_
               intro hm
               simp at hm
               subst hm
               simp at ht
  | (d, k) :: p :: r, fr, base, s, h, hb => by
    unfold decSt at h
    cases hv : k.dec (fr d) with
    | none => simp [hv] at h
    | some a =>
      cases hr : decSt (p :: r) fr with
      | none => simp [hv, hr] at h
      | some b =>
        simp only [hv, hr] at h
        injection h with h
        subst h
        funext t
        show (match Nat.beq t d with | true => k.enc a | false => encSt (p :: r) b base t) = fr t
        cases ht : Nat.beq t d with
        | true => have : t = d := Nat.eq_of_beq_eq_true ht
                  subst this
                  exact SlK.enc_dec hv
        | false =>
          by_cases hin : t ∈ (p :: r).map (·.1)
          · have e := enc_decSt (l := p :: r) (fr := fr) (base := fun t => if t ∈ (p :: r).map (·.1) then base t else fr t) hr (fun t ht => by rw [if_neg ht])
            have e2 : ∀ (l : Live) (s : St l) (b1 b2 : Fr) (t : Nat), t ∈ l.map (·.1) → encSt l s b1 t = encSt l s b2 t := by
              intro l
              induction l with
              | nil => intro s b1 b2 t h; simp at h
              | cons x l ih =>
                intro s b1 b2 t h
                cases l with
                | nil =>
                  obtain ⟨d, k⟩ := x
                  unfold encSt
                  simp at h
                  subst h
                  simp
                | cons y l =>
                  obtain ⟨d, k⟩ := x
                  unfold encSt
                  cases ht : Nat.beq t d with
                  | true => rfl
                  | false =>
                    refine ih s.2 b1 b2 t ?_
                    rcases List.mem_cons.1 h with h | h
                    · exfalso
                      simp at h
                      subst h
                      simp at ht
                    · exact h
            show encSt (p :: r) b base t = fr t
            rw [e2 _ _ _ (fun t => if t ∈ (p :: r).map (·.1) then base t else fr t) t hin, e]
          · have e3 : ∀ (l : Live) (s : St l) (b1 : Fr) (t : Nat), t ∉ l.map (·.1) → encSt l s b1 t = b1 t := by
              intro l
              induction l with
              | nil => intro s b1 t h; rfl
              | cons x l ih =>
                intro s b1 t h
                have h1 : t ≠ x.1 := fun e => h (by simp [e])
                have h2 : t ∉ l.map (·.1) := fun e => h (by simp only [List.map_cons, List.mem_cons]; exact .inr e)
                obtain ⟨d, k⟩ := x
                have hq : Nat.beq t d = false := by
                  cases hq : Nat.beq t d with
                  | false => rfl
                  | true => exact (h1 (Nat.eq_of_beq_eq_true hq)).elim
                cases l with
                | nil => unfold encSt; simp [hq]
                | cons y l => unfold encSt; simp only [hq]; exact ih s.2 b1 t h2
            show encSt (p :: r) b base t = fr t
            rw [e3 _ _ _ _ hin]
            refine hb t ?_
            intro hm
            rcases List.mem_cons.1 hm with hm | hm
            · simp at hm; subst hm; simp at ht
            · exact hin hm

/-- A frame at a cut: the slots that live hold what is told; the others of those written, anything; the rest, what they held. -/
def cutFr (ws : List Nat) (l : Live) (s : St l) (g : Nat → Value) (fr : Fr) : Fr := encSt l s fun t => match memB ws t with
  | true => g t
  | false => fr t

/-- The slots that code writes. -/
def writes : Code → List Nat
  | .region _ ops _ => dsts ops.toList
  | .seq a b => writes a ++ writes b
  | .cond _ a b => writes a ++ writes b
  | .block _ b => writes b
  | .loop b => writes b
  | _ => []

def cnt : Code → Nat
  | .seq a b => 1 + cnt a + cnt b
  | .cond _ a b => cnt a + cnt b
  | .block _ b => cnt b
  | .loop b => 1 + cnt b
  | _ => 0

def cutAt : List (Nat × Live) → Nat → Option Live
  | [], _ => none
  | (j, l) :: r, i => match Nat.beq j i with
    | true => some l
    | false => cutAt r i

def tabAt : List (Nat × List (List Nat)) → Nat → List (List Nat)
  | [], _ => []
  | (j, l) :: r, i => match Nat.beq j i with
    | true => l
    | false => tabAt r i

/-- What is told of a function's code: the slots that live at its loops and meetings; the tables of its regions that draw. -/
structure Ann where
  cuts : List (Nat × Live)
  tabs : List (Nat × List (List Nat))

def Ann.at_ (a : Ann) (i : Nat) : Option Live := cutAt a.cuts i

/-- A loop: by an invariant and what grows less. -/
def loopG {S : Type} (s0 : S) (h : Heap) (body : (Nat → Value) → S → Heap → (S → Heap → Prop) → Prop) : Prop :=
  ∃ (I : S → Heap → Prop) (μ : S → Heap → Nat), I s0 h ∧ ∀ g s h, I s h → body g s h fun s' h' => I s' h' ∧ μ s' h' < μ s h

/-- Where ways meet. -/
def joinS {S : Type} (A : (S → Heap → Prop) → Prop) (R : (Nat → Value) → S → Heap → Prop) : Prop := ∃ M : S → Heap → Prop, A M ∧ ∀ g s h, M s h → R g s h

def decK (l : Live) (fr : Fr) (K : St l → Prop) : Prop := match decSt l fr with
  | none => False
  | some s => K s

abbrev ExQ := Exit → Fr → Heap → Prop

def thenQ (K : Fr → Heap → Prop) (Q : ExQ) : ExQ
  | .normal => K
  | e => Q e

def blockQ (id : Nat) (Q : ExQ) : ExQ
  | .exit j => match Nat.beq j id with
    | true => Q .normal
    | false => Q (.exit j)
  | e => Q e

def subB (a b : List Nat) : Bool := a.all fun x => memB b x

def cw (P : Program) (n : Nat) (ann : Ann) : Nat → Code → ExQ → Fr → Heap → Prop
  | _, .skip, Q, fr, h => Q .normal fr h
  | _, .label _, Q, fr, h => Q .normal fr h
  | _, .region id ops draw, Q, fr, h => match draw with
    | false => cwOps P n ops ops.toList fr h (Q .normal)
    | true => drawW P n ops (tabAt ann.tabs id) fr h (Q .normal)
  | i, .seq x y, Q, fr, h => match Ann.at_ ann i with
    | none => cw P n ann (i + 1) x (thenQ (cw P n ann (i + 1 + cnt x) y Q) Q) fr h
    | some l => joinS (fun k => cw P n ann (i + 1) x (thenQ (fun fr' h' => decK l fr' fun s => k s h') Q) fr h)
        fun g s h => cw P n ann (i + 1 + cnt x) y Q (cutFr (writes x) l s g fr) h
  | i, .cond c x y, Q, fr, h => match fr.ev c with
    | .bool b => @Bool.rec (fun _ => Prop) (cw P n ann (i + cnt x) y Q fr h) (cw P n ann i x Q fr h) b
    | _ => False
  | i, .block id b, Q, fr, h => cw P n ann i b (blockQ id Q) fr h
  | i, .loop b, Q, fr, h => match Ann.at_ ann i with
    | none => False
    | some l => match subB (l.map (·.1)) (writes b) with
      | false => False
      | true => decK l fr fun s0 => loopG s0 h fun g s h k =>
          cw P n ann (i + 1) b (thenQ (fun fr' h' => decK l fr' fun s' => k s' h') Q) (cutFr (writes b) l s g fr) h
  | _, .exit id, Q, fr, h => Q (.exit id) fr h
  | _, .ret, Q, fr, h => Q .ret fr h
  | _, _, _, _, _ => False

theorem decK_mono {l : Live} {fr : Fr} {K K' : St l → Prop} (hk : ∀ s, K s → K' s) (x : decK l fr K) : decK l fr K' := by
  unfold decK at x ⊢
  cases hd : decSt l fr with
  | none => simp only [hd] at x
  | some s => simp only [hd] at x ⊢; exact hk _ x

theorem loopG_mono {S : Type} {s0 : S} {h : Heap} {b b' : (Nat → Value) → S → Heap → (S → Heap → Prop) → Prop} (hk : ∀ g s h k, b g s h k → b' g s h k) (x : loopG s0 h b) : loopG s0 h b' := by
  obtain ⟨I, μ, h0, h1⟩ := x
  exact ⟨I, μ, h0, fun g s h hi => hk _ _ _ _ (h1 g s h hi)⟩

theorem thenQ_mono {K K' : Fr → Heap → Prop} {Q Q' : ExQ} (hk : ∀ fr h, K fr h → K' fr h) (hq : ∀ e fr h, Q e fr h → Q' e fr h) : ∀ e fr h, thenQ K Q e fr h → thenQ K' Q' e fr h := by
  intro e fr h x
  cases e <;> first | exact hk _ _ x | exact hq _ _ _ x

theorem blockQ_mono {id : Nat} {Q Q' : ExQ} (hq : ∀ e fr h, Q e fr h → Q' e fr h) : ∀ e fr h, blockQ id Q e fr h → blockQ id Q' e fr h := by
  intro e fr h x
  cases e with
  | exit j =>
    unfold blockQ at x ⊢
    cases hj : Nat.beq j id <;> simp only [hj] at x ⊢ <;> exact hq _ _ _ x
  | _ => exact hq _ _ _ x

theorem cw_mono {P : Program} {n : Nat} {ann : Ann} (c : Code) : ∀ (i : Nat) (Q Q' : ExQ) (fr : Fr) (h : Heap), (∀ e fr h, Q e fr h → Q' e fr h) → cw P n ann i c Q fr h → cw P n ann i c Q' fr h := by
  induction c with
  | skip => exact fun i Q Q' fr h hq x => hq _ _ _ x
  | label l => exact fun i Q Q' fr h hq x => hq _ _ _ x
  | region id ops draw =>
    intro i Q Q' fr h hq x
    cases draw with
    | false => exact cwOps_mono (hq _) _ _ _ x
    | true => exact drawW_mono (hq _) x
  | seq a b iha ihb =>
    intro i Q Q' fr h hq x
    unfold cw at x ⊢
    cases hl : Ann.at_ ann i with
    | none =>
      simp only [hl] at x ⊢
      exact iha _ _ _ _ _ (thenQ_mono (fun fr h y => ihb _ _ _ _ _ hq y) hq) x
    | some l =>
      simp only [hl] at x ⊢
      obtain ⟨M, hA, hR⟩ := x
      exact ⟨M, iha _ _ _ _ _ (thenQ_mono (fun _ _ y => y) hq) hA, fun g s h m => ihb _ _ _ _ _ hq (hR g s h m)⟩
  | cond c a b iha ihb =>
    intro i Q Q' fr h hq x
    unfold cw at x ⊢
    cases hc : fr.ev c <;> simp only [hc] at x ⊢
    exact condP_mono (iha _ _ _ _ _ hq) (ihb _ _ _ _ _ hq) x
  | block id b ih =>
    intro i Q Q' fr h hq x
    exact ih _ _ _ _ _ (blockQ_mono hq) x
  | loop b ih =>
    intro i Q Q' fr h hq x
    unfold cw at x ⊢
    cases hl : Ann.at_ ann i with
    | none => simp only [hl] at x
    | some l =>
      simp only [hl] at x ⊢
      cases hs : subB (l.map (·.1)) (writes b) <;> simp only [hs] at x ⊢
      exact decK_mono (fun s y => loopG_mono (fun g s h k z => ih _ _ _ _ _ (thenQ_mono (fun _ _ u => u) hq) z) y) x
  | exit id => exact fun i Q Q' fr h hq x => hq _ _ _ x
  | ret => exact fun i Q Q' fr h hq x => hq _ _ _ x
  | _ => exact fun i Q Q' fr h hq x => x

theorem cutFr_out {ws : List Nat} {l : Live} {s : St l} {g : Nat → Value} {fr : Fr} {t : Nat} (hl : subB (l.map (·.1)) ws = true) (ht : t ∉ ws) : cutFr ws l s g fr t = fr t := by
  have e3 : ∀ (l : Live) (s : St l) (b1 : Fr) (t : Nat), t ∉ l.map (·.1) → encSt l s b1 t = b1 t := by
    intro l
    induction l with
    | nil => intro s b1 t h; rfl
    | cons x l ih =>
      intro s b1 t h
      have h1 : t ≠ x.1 := fun e => h (by simp [e])
      have h2 : t ∉ l.map (·.1) := fun e => h (by simp only [List.map_cons, List.mem_cons]; exact .inr e)
      obtain ⟨d, k⟩ := x
      have hq : Nat.beq t d = false := by
        cases hq : Nat.beq t d with
        | false => rfl
        | true => exact (h1 (Nat.eq_of_beq_eq_true hq)).elim
      cases l with
      | nil => unfold encSt; simp [hq]
      | cons y l => unfold encSt; simp only [hq]; exact ih s.2 b1 t h2
  unfold cutFr
  rw [e3]
  · simp only [memB_false ht]
  · intro hm
    apply ht
    unfold subB at hl
    exact memB_iff.1 (List.all_eq_true.1 hl t hm)

theorem cutFr_self {ws : List Nat} {l : Live} {s : St l} {fr fr' : Fr} (hd : decSt l fr' = some s) (hw : ∀ t, t ∉ ws → fr' t = fr t) : cutFr ws l s fr' fr = fr' := by
  unfold cutFr
  refine enc_decSt hd fun t ht => ?_
  cases he : memB ws t with
  | true => rfl
  | false => simp only []; exact (hw t (not_mem_of_memB he)).symm

theorem cw_writes {P : Program} {n : Nat} {ann : Ann} (c : Code) : ∀ (i : Nat) (Q : ExQ) (fr : Fr) (h : Heap), cw P n ann i c Q fr h →
    cw P n ann i c (fun e fr' h' => Q e fr' h' ∧ ∀ t, t ∉ writes c → fr' t = fr t) fr h := by
  induction c with
  | skip => exact fun i Q fr h x => ⟨x, fun _ _ => rfl⟩
  | label l => exact fun i Q fr h x => ⟨x, fun _ _ => rfl⟩
  | region id ops draw =>
    intro i Q fr h x
    cases draw with
    | false => exact cwOps_writes _ _ _ x
    | true => exact drawW_writes x
  | seq a b iha ihb =>
    intro i Q fr h x
    unfold cw at x ⊢
    have hna : ∀ t, t ∉ writes (.seq a b) → t ∉ writes a ∧ t ∉ writes b := fun t ht => by simpa [writes, not_or] using ht
    cases hl : Ann.at_ ann i with
    | none =>
      simp only [hl] at x ⊢
      refine cw_mono a _ _ _ _ _ ?_ (iha _ _ _ _ x)
      intro e fr1 h1 ⟨y, hy⟩
      cases e with
      | normal => exact cw_mono b _ _ _ _ _ (fun e fr2 h2 z => ⟨z.1, fun t ht => by rw [z.2 t (hna t ht).2, hy t (hna t ht).1]⟩) (ihb _ _ _ _ y)
      | _ => exact ⟨y, fun t ht => hy t (hna t ht).1⟩
    | some l =>
      simp only [hl] at x ⊢
      obtain ⟨M, hA, hR⟩ := x
      refine ⟨fun s h => M s h ∧ ∃ fr1, decSt l fr1 = some s ∧ ∀ t, t ∉ writes a → fr1 t = fr t, cw_mono a _ _ _ _ _ ?_ (iha _ _ _ _ hA), ?_⟩
      · intro e fr1 h1 ⟨y, hy⟩
        cases e with
        | normal =>
          unfold thenQ decK at y ⊢
          simp only [] at y ⊢
          cases hd : decSt l fr1 with
          | none => simp only [hd] at y
          | some s => simp only [hd] at y ⊢; exact ⟨y, fr1, hd, hy⟩
        | _ => exact ⟨y, fun t ht => hy t (hna t ht).1⟩
      · rintro g s h1 ⟨m, fr1, hd, hy⟩
        · have hself := cutFr_self hd hy
          refine cw_mono b _ _ _ _ _ (fun e fr2 h2 z => ⟨z.1, fun t ht => ?_⟩) (ihb _ _ _ _ (hR g s h1 m))
          rw [z.2 t (hna t ht).2]
          have ht1 := (hna t ht).1
          have e1 : cutFr (writes a) l s g fr t = cutFr (writes a) l s fr1 fr t := by
            unfold cutFr
            have gen : ∀ (l : Live) (s : St l) (b1 b2 : Fr), b1 t = b2 t → encSt l s b1 t = encSt l s b2 t := by
              intro l
              induction l with
              | nil => intro s b1 b2 e; exact e
              | cons p l ih =>
                intro s b1 b2 e
                obtain ⟨d, k⟩ := p
                cases l with
                | nil => unfold encSt; cases Nat.beq t d <;> simp [e]
                | cons q l => unfold encSt; cases Nat.beq t d <;> simp only []; exact ih _ _ _ e
            refine gen _ _ _ _ ?_
            simp only [memB_false ht1]
          rw [e1, hself, hy t ht1]
  | cond c a b iha ihb =>
    intro i Q fr h x
    have hna : ∀ t, t ∉ writes (.cond c a b) → t ∉ writes a ∧ t ∉ writes b := fun t ht => by simpa [writes, not_or] using ht
    unfold cw at x ⊢
    cases hc : fr.ev c <;> simp only [hc] at x ⊢
    exact condP_mono (fun y => cw_mono a _ _ _ _ _ (fun e fr2 h2 z => ⟨z.1, fun t ht => z.2 t (hna t ht).1⟩) (iha _ _ _ _ y))
      (fun y => cw_mono b _ _ _ _ _ (fun e fr2 h2 z => ⟨z.1, fun t ht => z.2 t (hna t ht).2⟩) (ihb _ _ _ _ y)) x
  | block id b ih =>
    intro i Q fr h x
    refine cw_mono b _ _ _ _ _ ?_ (ih _ _ _ _ x)
    intro e fr1 h1 ⟨y, hy⟩
    cases e with
    | exit j =>
      unfold blockQ at y ⊢
      cases hj : Nat.beq j id <;> simp only [hj] at y ⊢ <;> exact ⟨y, hy⟩
    | _ => exact ⟨y, hy⟩
  | loop b ih =>
    intro i Q fr h x
    unfold cw at x ⊢
    cases hl : Ann.at_ ann i with
    | none => simp only [hl] at x
    | some l =>
      simp only [hl] at x ⊢
      cases hs : subB (l.map (·.1)) (writes b) <;> simp only [hs] at x ⊢
      refine decK_mono (fun s y => loopG_mono (fun g s h k z => ?_) y) x
      refine cw_mono b _ _ _ _ _ ?_ (ih _ _ _ _ z)
      intro e fr1 h1 ⟨u, hu⟩
      have hu' : ∀ t, t ∉ writes b → fr1 t = fr t := fun t ht => by rw [hu t ht, cutFr_out hs ht]
      cases e with
      | normal => exact u
      | _ => exact ⟨u, hu'⟩
  | exit id => exact fun i Q fr h x => ⟨x, fun _ _ => rfl⟩
  | ret => exact fun i Q fr h x => ⟨x, fun _ _ => rfl⟩
  | _ => exact fun i Q fr h x => x

end Go.Rv
