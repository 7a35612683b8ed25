/- What reads gives one value; and what an operation does hangs on its operands alone. -/
import Derived.Test.YtlibanaihidlhaaGreatRvDraw
namespace Go.Rv
set_option linter.unusedVariables false
set_option linter.unusedSimpArgs false

def Det (F : (Value → Prop) → Prop) : Prop := ∀ K, F K → ∃ v, K v ∧ ∀ K' : Value → Prop, K' v → F K'

theorem det_nnP {p : Option Addr} {g : Addr → Value} : Det fun K => nnP p fun a => K (g a) := by
  intro K x; cases p with
  | none => exact x.elim
  | some a => exact ⟨_, x, fun K' y => y⟩
theorem det_nfP {f : Value} : Det fun K => nfP f (K f) := by
  intro K x
  unfold nfP at x ⊢
  split at x
  · exact ⟨_, x, fun K' y => y⟩
  · exact x.elim
theorem det_slcP {s : Nat} {b : Option Addr} {l c : Nat} {lo hi mx : Option Int} : Det fun K => slcP s b l c lo hi mx fun b l c => K (.slice b l c) :=
  fun K x => ⟨_, x.2.2.2.2.2.2.2, fun K' y => ⟨x.1, x.2.1, x.2.2.1, x.2.2.2.1, x.2.2.2.2.1, x.2.2.2.2.2.1, x.2.2.2.2.2.2.1, y⟩⟩
theorem det_slaP {s : Nat} {b : Addr} {l : Nat} {lo hi mx : Option Int} : Det fun K => slaP s b l lo hi mx fun b l c => K (.slice b l c) :=
  fun K x => ⟨_, x.2.2.2.2.2.2.2, fun K' y => ⟨x.1, x.2.1, x.2.2.1, x.2.2.2.1, x.2.2.2.2.1, x.2.2.2.2.2.1, x.2.2.2.2.2.2.1, y⟩⟩
theorem det_sstP {s : ByteArray} {lo hi : Option Int} : Det fun K => sstP s lo hi fun b => K (.string b) :=
  fun K x => ⟨_, x.2.2.2.2, fun K' y => ⟨x.1, x.2.1, x.2.2.1, x.2.2.2.1, y⟩⟩
theorem det_ixP {b : Option Addr} {l : Nat} {i : Int} {s : Nat} : Det fun K => ixP b l i s fun a => K (.pointer (some a)) := by
  intro K x; obtain ⟨h1, h2, a, e, x⟩ := x; exact ⟨_, x, fun K' y => ⟨h1, h2, a, e, y⟩⟩
theorem det_idxC {i : Int} : ∀ {ps : List Value} {j : Nat}, (j : Int) ≤ i → i < ((j + ps.length : Nat) : Int) → ∀ K, idxC ps j i K → ∃ v, K v ∧ ∀ K' : Value → Prop, K' v → idxC ps j i K'
  | [], j, h1, h2, K, x => by simp at h2; omega
  | p :: ps, j, h1, h2, K, x => by
    by_cases e : i = j
    · refine ⟨p, x.1 e, fun K' y => ⟨fun _ => y, ?_⟩⟩
      have : ∀ (ps : List Value) (m : Nat), (i : Int) < m → idxC ps m i K' := by
        intro ps
        induction ps with
        | nil => intro m h; trivial
        | cons q ps ih => intro m h; exact ⟨fun e => by omega, ih (m + 1) (by omega)⟩
      exact this ps (j + 1) (by omega)
    · obtain ⟨v, hv, hk⟩ := det_idxC (ps := ps) (j := j + 1) (by omega) (by simp only [List.length_cons] at h2; omega) K x.2
      exact ⟨v, hv, fun K' y => ⟨fun e' => (e e').elim, hk K' y⟩⟩
theorem det_idxL {ps : List Value} {i : Int} : Det fun K => idxL ps i K := by
  intro K x
  obtain ⟨h1, h2, x⟩ := x
  obtain ⟨v, hv, hk⟩ := det_idxC (j := 0) (by simpa using h1) (by simpa using h2) K x
  exact ⟨v, hv, fun K' y => ⟨h1, h2, hk K' y⟩⟩
theorem det_intP {op : BinOp} {k k' : IntKind} {a b : Int} : Det fun K => intP op k a k' b K := by
  intro K x
  unfold intP at x ⊢
  cases hd : decide (k = k') <;> rw [hd] at x <;> cases op <;> first
    | exact x.elim
    | exact ⟨_, x, fun K' y => y⟩
    | exact ⟨_, x.2, fun K' y => ⟨x.1, y⟩⟩
theorem det_strP {op : BinOp} {a b : ByteArray} : Det fun K => strP op a b K := by
  intro K x
  unfold strP at x ⊢
  cases op <;> first
    | exact x.elim
    | exact ⟨_, x, fun K' y => y⟩
    | exact ⟨_, x.2, fun K' y => ⟨x.1, y⟩⟩

theorem det_pure {P : Program} {o : Oper} {ρ : Operand → Value} : Det fun K => pureP P o ρ K := by
  intro K x
  simp only [] at x ⊢
  unfold pureP at x ⊢
  obtain ⟨dst, op, type, pos, after, guard⟩ := o
  cases op with
  | move y => exact ⟨_, x, fun K' y => y⟩
  | assign y => exact ⟨_, x, fun K' y => y⟩
  | pick c a b =>
    simp only [] at x ⊢
    cases hc : ρ c <;> simp only [hc] at x ⊢
    rename_i t
    cases t with
    | true => exact ⟨_, x, fun K' y => y⟩
    | false => exact ⟨_, x, fun K' y => y⟩
  | nilCheck y =>
    simp only [] at x ⊢
    split at x
    · exact det_nnP (g := fun a => .pointer (some a)) K x
    · exact det_nfP K x
  | slice t y lo hi mx =>
    simp only [] at x ⊢
    split at x
    · split at x
      · exact det_slcP K x
      · exact x.elim
    · exact det_sstP K x
    · split at x
      · exact det_slaP K x
      · exact x.elim
    · exact x.elim
  | fieldAddr s y f =>
    simp only [] at x ⊢
    split at x
    · split at x
      · split at x
        · exact x.elim
        · exact ⟨_, x, fun K' y => y⟩
      · exact x.elim
    · exact x.elim
  | field t y f =>
    simp only [] at x ⊢
    split at x
    · split at x
      · split at x
        · split at x
          · exact ⟨_, x, fun K' y => y⟩
          · split at x
            · exact ⟨_, x, fun K' y => y⟩
            · exact x.elim
        · exact x.elim
      · exact x.elim
    · exact x.elim
  | indexAddr t y ix =>
    simp only [] at x ⊢
    split at x
    · split at x
      · exact det_ixP K x
      · exact x.elim
    · split at x
      · exact det_ixP K x
      · exact x.elim
    · exact x.elim
  | index t y ix =>
    simp only [] at x ⊢
    split at x
    · split at x
      · rename_i h1
        obtain ⟨v, hv, hk⟩ := det_idxL K x
        exact ⟨v, hv, fun K' y => by rw [if_pos h1]; exact hk K' y⟩
      · exact x.elim
    · obtain ⟨h0, b, hb, x⟩ := x; exact ⟨_, x, fun K' y => ⟨h0, b, hb, y⟩⟩
    · exact x.elim
  | extract y i =>
    simp only [] at x ⊢
    split at x
    · split at x
      · exact ⟨_, x, fun K' y => y⟩
      · exact x.elim
    · exact x.elim
  | build t parts =>
    simp only [] at x ⊢
    split at x
    · split at x
      · exact ⟨_, x, fun K' y => y⟩
      · exact x.elim
    · exact x.elim
  | makeFunc fn first captured => exact ⟨_, x, fun K' y => y⟩
  | convert src dst y =>
    simp only [] at x ⊢
    split at x
    · exact ⟨_, x, fun K' y => y⟩
    · exact ⟨_, x, fun K' y => y⟩
    · exact x.elim
  | unOp op t y =>
    simp only [] at x ⊢
    split at x
    · exact ⟨_, x, fun K' y => y⟩
    · exact ⟨_, x, fun K' y => y⟩
    · exact x.elim
  | binOp op t y z yt =>
    simp only [] at x ⊢
    split at x
    · exact det_intP K x
    · exact det_strP K x
    all_goals first
      | exact x.elim
      | (split at x <;> first | exact ⟨_, x, fun K' y => y⟩ | exact x.elim)
  | call c =>
    simp only [] at x ⊢
    split at x
    · split at x
      · split at x <;> first | exact ⟨_, x, fun K' y => y⟩ | exact x.elim
      · exact x.elim
    · split at x <;> first | exact ⟨_, x, fun K' y => y⟩ | exact x.elim
    · split at x <;> first | exact ⟨_, x, fun K' y => y⟩ | exact x.elim
    · exact x.elim
  | _ => exact x.elim

theorem det_dC {k : CK} {v : Value} : Det fun K => dC k v K := by
  intro K x
  cases k <;> simp only [dC] at x ⊢
  case any => exact ⟨_, x, fun K' y => y⟩
  case slice => obtain ⟨a, l, c, e, x⟩ := x; exact ⟨_, x, fun K' y => ⟨a, l, c, e, y⟩⟩
  all_goals (obtain ⟨z, e, x⟩ := x; exact ⟨_, x, fun K' y => ⟨z, e, y⟩⟩)
theorem det_ld1 {k : CK} {h : Heap} {a : Addr} : Det fun K => ld1 k h a K := by
  intro K x
  cases k <;> simp only [ld1] at x ⊢
  case slice => obtain ⟨a, l, c, e, x⟩ := x; exact ⟨_, x, fun K' y => ⟨a, l, c, e, y⟩⟩
  all_goals (obtain ⟨z, e, x⟩ := x; exact ⟨_, x, fun K' y => ⟨z, e, y⟩⟩)
theorem det_lds {h : Heap} {a : Addr} : ∀ {ks : List CK} {i : Nat} (K : List Value → Prop), lds h a ks i K → ∃ vs, K vs ∧ ∀ K' : List Value → Prop, K' vs → lds h a ks i K'
  | [], i, K, x => ⟨_, x, fun K' y => y⟩
  | k :: ks, i, K, x => by
    obtain ⟨v, hv, hk⟩ := det_ld1 _ x
    obtain ⟨vs, hvs, hks⟩ := det_lds _ hv
    exact ⟨v :: vs, hvs, fun K' y => hk _ (hks _ y)⟩
theorem det_ldT {P : Program} {t : TypeId} {h : Heap} {a : Addr} : Det fun K => ldT P t h a K := by
  intro K x
  unfold ldT at x ⊢
  split at x
  · rename_i h1
    split at x
    · rename_i h2
      obtain ⟨vs, hv, hk⟩ := det_lds _ x
      exact ⟨_, hv, fun K' y => by simp only []; rw [if_pos h1, if_pos h2]; exact hk _ y⟩
    · exact x.elim
  · rename_i h1
    obtain ⟨v, hv, hk⟩ := det_ld1 _ x
    exact ⟨v, hv, fun K' y => by simp only []; rw [if_neg h1]; exact hk _ y⟩
theorem det_dCs : ∀ {ks : List CK} {vs : List Value} (K : List Value → Prop), dCs ks vs K → ∃ l, K l ∧ ∀ K' : List Value → Prop, K' l → dCs ks vs K'
  | [], [], K, x => ⟨_, x, fun K' y => y⟩
  | k :: ks, v :: vs, K, x => by
    obtain ⟨w, hv, hk⟩ := det_dC _ x
    obtain ⟨l, hl, hkl⟩ := det_dCs _ hv
    exact ⟨w :: l, hl, fun K' y => hk _ (hkl _ y)⟩
  | [], _ :: _, _, x => x.elim
  | _ :: _, [], _, x => x.elim
theorem det_exN {α : Type} {G : List Value → (α → Prop) → Prop} (hG : ∀ l K, G l K → ∃ v, K v ∧ ∀ K' : α → Prop, K' v → G l K') : ∀ {n : Nat} (K : α → Prop), exN n (fun l => G l K) → ∃ v, K v ∧ ∀ K' : α → Prop, K' v → exN n fun l => G l K'
  | 0, K, x => hG _ K x
  | n + 1, K, ⟨z, x⟩ => by
    obtain ⟨v, hv, hk⟩ := det_exN (G := fun l => G (z :: l)) (fun l K => hG _ K) K x
    exact ⟨v, hv, fun K' y => ⟨z, hk K' y⟩⟩
theorem det_d1 {k : SK} {v : Value} : Det fun K => d1 k v K := by
  intro K x
  cases k with
  | one k => exact det_dC K x
  | tup l => exact ⟨_, x, fun K' y => y⟩
  | agg l =>
    have x' : exN l.length fun vs => v = .agg vs.toArray ∧ dCs l vs fun l => K (.agg l.toArray) := x
    exact det_exN (α := Value) (G := fun vs K => v = .agg vs.toArray ∧ dCs l vs fun l => K (.agg l.toArray)) (fun vs K y => by
      obtain ⟨w, hw, hk⟩ := det_dCs _ y.2
      exact ⟨_, hw, fun K' z => ⟨y.1, hk _ z⟩⟩) (n := l.length) K x'
theorem det_lkP {κ : Type} [DecidableEq κ] {kf : κ → Value} {h : Heap} {m : Option Nat} {k : κ} {z : Value} {α : Type} {G : Value → Bool → (α → Prop) → Prop} (hG : ∀ v b K, G v b K → ∃ a, K a ∧ ∀ K' : α → Prop, K' a → G v b K') (K : α → Prop)
    (x : lkP kf h m k z fun v b => G v b K) : ∃ a, K a ∧ ∀ K' : α → Prop, K' a → lkP kf h m k z fun v b => G v b K' := by
  cases m with
  | none => exact hG _ _ _ x
  | some r =>
    obtain ⟨es, c, e, x⟩ := x
    obtain ⟨a, ha, hk⟩ := hG _ _ _ x
    exact ⟨a, ha, fun K' y => ⟨es, c, e, hk K' y⟩⟩

theorem det_heap {P : Program} {o : Oper} {ρ : Operand → Value} {h : Heap} : Det fun K => heapP P o ρ h K := by
  intro K x
  simp only [] at x ⊢
  unfold heapP at x ⊢
  obtain ⟨dst, op, type, pos, after, guard⟩ := o
  cases op with
  | load t a =>
    simp only [] at x ⊢
    split at x
    · split at x
      · exact det_ldT K x
      · exact x.elim
    · exact x.elim
  | lookup t m k ok =>
    simp only [] at x ⊢
    split at x
    · rename_i kt et r hu hm
      have hG : ∀ (v : Value) (b : Bool) (K : Value → Prop), (d1 (skind1 P et) v fun v => K (if ok then .tuple #[v, .bool b] else v)) → ∃ a, K a ∧ ∀ K' : Value → Prop, K' a → d1 (skind1 P et) v fun v => K' (if ok then .tuple #[v, .bool b] else v) := by
        intro v b K y
        obtain ⟨w, hw, hk⟩ := det_d1 _ y
        exact ⟨_, hw, fun K' z => hk _ z⟩
      unfold mlook at x ⊢
      split at x
      · split at x
        · rename_i hq
          subst hq
          obtain ⟨a, ha, hk⟩ := det_lkP hG K x
          exact ⟨a, ha, fun K' y => by simp only [if_true]; exact hk K' y⟩
        · exact x.elim
      · exact det_lkP hG K x
      · split at x
        · exact det_lkP hG K x
        · exact x.elim
      · exact x.elim
    · exact x.elim
  | binOp op t y z yt =>
    cases op with
    | eql =>
      simp only [] at x ⊢
      split at x
      · split at x
        · exact x.elim
        · exact ⟨_, x.2, fun K' y => ⟨x.1, y⟩⟩
      · exact x.elim
    | neq =>
      simp only [] at x ⊢
      split at x
      · split at x
        · exact x.elim
        · exact ⟨_, x.2, fun K' y => ⟨x.1, y⟩⟩
      · exact x.elim
    | _ => exact x.elim
  | call c =>
    simp only [] at x ⊢
    split at x
    · split at x
      · split at x
        · rename_i m _ _ _ _ _ _ _
          rename_i h1
          unfold mlenP at x ⊢
          split at x
          · exact ⟨_, x, fun K' y => y⟩
          · obtain ⟨es, c, e, x⟩ := x; exact ⟨_, x, fun K' y => ⟨es, c, e, y⟩⟩
        · exact x.elim
      · exact x.elim
    · exact x.elim
  | _ => exact x.elim

end Go.Rv
