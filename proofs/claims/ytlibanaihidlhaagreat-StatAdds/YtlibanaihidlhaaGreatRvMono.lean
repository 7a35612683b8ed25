/- All that is typed is monotone in what follows. -/
import Derived.Test.YtlibanaihidlhaaGreatRvCode
namespace Go.Rv
set_option linter.unusedVariables false
set_option linter.unusedSimpArgs false
theorem opH_mono {P : Program} {o : Oper} {ρ : Operand → Value} {h : Heap} {K K' : Value → Heap → Prop} (hk : ∀ v h, K v h → K' v h) (x : opH P o ρ h K) : opH P o ρ h K' := by
  refine hw_mono (fun nx h' y => ?_) _ _ x
  cases nx with
  | value v => exact hk _ _ y
  | skip => exact hk _ _ y
  | enter f args => exact CallsH.mono y hk
  | _ => exact y

theorem dC_mono {k : CK} {v : Value} {K K' : Value → Prop} (hk : ∀ v, K v → K' v) (x : dC k v K) : dC k v K' := by
  cases k <;> simp only [dC] at x ⊢
  case any => exact hk _ x
  case slice => obtain ⟨a, l, c, e, x⟩ := x; exact ⟨a, l, c, e, hk _ x⟩
  all_goals (obtain ⟨y, e, x⟩ := x; exact ⟨y, e, hk _ x⟩)
theorem dCs_mono : ∀ {ks : List CK} {vs : List Value} {K K' : List Value → Prop}, (∀ v, K v → K' v) → dCs ks vs K → dCs ks vs K'
  | [], [], _, _, hk, x => hk _ x
  | k :: ks, v :: vs, _, _, hk, x => dC_mono (fun v y => dCs_mono (fun vs z => hk _ z) y) x
  | [], _ :: _, _, _, _, x => x.elim
  | _ :: _, [], _, _, _, x => x.elim
theorem dA_mono {l : List CK} {v : Value} {K K' : Value → Prop} (hk : ∀ v, K v → K' v) (x : dA l v K) : dA l v K' := by
  exact exN_mono (fun _ y => ⟨y.1, dCs_mono (fun _ y => hk _ y) y.2⟩) x
theorem d1_mono {k : SK} {v : Value} {K K' : Value → Prop} (hk : ∀ v, K v → K' v) (x : d1 k v K) : d1 k v K' := by
  cases k with
  | one k => exact dC_mono hk x
  | agg l => exact dA_mono hk x
  | tup l => exact hk _ x
theorem d1s_mono : ∀ {ks : List SK} {vs : List Value} {K K' : List Value → Prop}, (∀ v, K v → K' v) → d1s ks vs K → d1s ks vs K'
  | [], [], _, _, hk, x => hk _ x
  | k :: ks, v :: vs, _, _, hk, x => d1_mono (fun v y => d1s_mono (fun vs z => hk _ z) y) x
  | [], _ :: _, _, _, _, x => x.elim
  | _ :: _, [], _, _, _, x => x.elim
theorem dR_mono {k : SK} {v : Value} {K K' : Value → Prop} (hk : ∀ v, K v → K' v) (x : dR k v K) : dR k v K' := by
  cases k with
  | one k => exact dC_mono hk x
  | agg l => exact dA_mono hk x
  | tup l => exact exN_mono (fun _ y => ⟨y.1, d1s_mono (fun _ y => hk _ y) y.2⟩) x
theorem ld1_mono {k : CK} {h : Heap} {a : Addr} {K K' : Value → Prop} (hk : ∀ v, K v → K' v) (x : ld1 k h a K) : ld1 k h a K' := by
  cases k <;> simp only [ld1] at x ⊢
  case slice => obtain ⟨b, l, c, e, x⟩ := x; exact ⟨b, l, c, e, hk _ x⟩
  all_goals (obtain ⟨y, e, x⟩ := x; exact ⟨y, e, hk _ x⟩)
theorem lds_mono {h : Heap} {a : Addr} : ∀ {ks : List CK} {i : Nat} {K K' : List Value → Prop}, (∀ v, K v → K' v) → lds h a ks i K → lds h a ks i K'
  | [], _, _, _, hk, x => hk _ x
  | k :: ks, i, _, _, hk, x => ld1_mono (fun v y => lds_mono (fun vs z => hk _ z) y) x
theorem ldT_mono {P : Program} {t : TypeId} {h : Heap} {a : Addr} {K K' : Value → Prop} (hk : ∀ v, K v → K' v) (x : ldT P t h a K) : ldT P t h a K' := by
  unfold ldT at x ⊢
  split
  · rename_i h1; rw [if_pos h1] at x
    split
    · rename_i h2; rw [if_pos h2] at x; exact lds_mono (fun _ y => hk _ y) x
    · rename_i h2; rw [if_neg h2] at x; exact x
  · rename_i h1; rw [if_neg h1] at x; exact ld1_mono hk x
theorem st1_mono {h : Heap} {a : Addr} {v : Value} {K K' : Heap → Prop} (hk : ∀ v, K v → K' v) (x : st1 h a v K) : st1 h a v K' := ⟨x.1, x.2.1, hk _ x.2.2⟩
theorem sts_mono {a : Addr} : ∀ {vs : List Value} {h : Heap} {i : Nat} {K K' : Heap → Prop}, (∀ v, K v → K' v) → sts h a vs i K → sts h a vs i K'
  | [], _, _, _, _, hk, x => hk _ x
  | v :: vs, h, i, K, K', hk, x => by
    unfold sts at x ⊢
    cases hp : plainB v with
    | true => rw [hp] at x; exact st1_mono (fun _ y => sts_mono hk y) x
    | false => rw [hp] at x; exact x
theorem stT_mono {P : Program} {t : TypeId} {h : Heap} {a : Addr} {v : Value} {K K' : Heap → Prop} (hk : ∀ v, K v → K' v) (x : stT P t h a v K) : stT P t h a v K' := by
  unfold stT at x ⊢
  split
  · rename_i h1; rw [if_pos h1] at x; exact sts_mono hk x
  · rename_i h1; rw [if_neg h1] at x; exact x
theorem condP_mono {b : Bool} {A B A' B' : Prop} (ha : A → A') (hb : B → B') (x : condP b A B) : condP b A' B' := by cases b; exact hb x; exact ha x
theorem nnP_mono {p : Option Addr} {K K' : Addr → Prop} (hk : ∀ v, K v → K' v) (x : nnP p K) : nnP p K' := by cases p; exact x; exact hk _ x
theorem slcP_mono {s : Nat} {b : Option Addr} {l c : Nat} {lo hi mx : Option Int} {K K' : Option Addr → Nat → Nat → Prop} (hk : ∀ a b c, K a b c → K' a b c) (x : slcP s b l c lo hi mx K) : slcP s b l c lo hi mx K' :=
  ⟨x.1, x.2.1, x.2.2.1, x.2.2.2.1, x.2.2.2.2.1, x.2.2.2.2.2.1, x.2.2.2.2.2.2.1, hk _ _ _ x.2.2.2.2.2.2.2⟩
theorem sstP_mono {s : ByteArray} {lo hi : Option Int} {K K' : ByteArray → Prop} (hk : ∀ a, K a → K' a) (x : sstP s lo hi K) : sstP s lo hi K' := ⟨x.1, x.2.1, x.2.2.1, x.2.2.2.1, hk _ x.2.2.2.2⟩
theorem ixP_mono {b : Option Addr} {l : Nat} {i : Int} {s : Nat} {K K' : Addr → Prop} (hk : ∀ a, K a → K' a) (x : ixP b l i s K) : ixP b l i s K' := by
  obtain ⟨h1, h2, a, e, x⟩ := x; exact ⟨h1, h2, a, e, hk _ x⟩
theorem idxC_mono {i : Int} {K K' : Value → Prop} (hk : ∀ v, K v → K' v) : ∀ {ps : List Value} {j : Nat}, idxC ps j i K → idxC ps j i K'
  | [], _, _ => trivial
  | p :: ps, j, x => ⟨fun e => hk _ (x.1 e), idxC_mono hk x.2⟩
theorem idxL_mono {ps : List Value} {i : Int} {K K' : Value → Prop} (hk : ∀ v, K v → K' v) (x : idxL ps i K) : idxL ps i K' := ⟨x.1, x.2.1, idxC_mono hk x.2.2⟩
theorem lkP_mono {κ : Type} [DecidableEq κ] {kf : κ → Value} {h : Heap} {m : Option Nat} {k : κ} {z : Value} {K K' : Value → Bool → Prop} (hk : ∀ v b, K v b → K' v b) (x : lkP kf h m k z K) : lkP kf h m k z K' := by
  cases m with
  | none => exact hk _ _ x
  | some r => obtain ⟨es, c, e, x⟩ := x; exact ⟨es, c, e, hk _ _ x⟩
theorem mputP_mono {κ : Type} [DecidableEq κ] {kf : κ → Value} {h : Heap} {m : Option Nat} {k : κ} {v : Value} {K K' : Heap → Prop} (hk : ∀ v, K v → K' v) (x : mputP kf h m k v K) : mputP kf h m k v K' := by
  obtain ⟨r, es, c, e, e', x⟩ := x; exact ⟨r, es, c, e, e', hk _ x⟩
theorem mdelP_mono {κ : Type} [DecidableEq κ] {kf : κ → Value} {h : Heap} {m : Option Nat} {k : κ} {K K' : Heap → Prop} (hk : ∀ v, K v → K' v) (x : mdelP kf h m k K) : mdelP kf h m k K' := by
  cases m with
  | none => exact hk _ x
  | some r => obtain ⟨es, c, e, x⟩ := x; exact ⟨es, c, e, hk _ x⟩
theorem mlook_mono {P : Program} {kt et : TypeId} {h : Heap} {m : Option Nat} {k : Value} {K K' : Value → Bool → Prop} (hk : ∀ v b, K v b → K' v b) (x : mlook P kt et h m k K) : mlook P kt et h m k K' := by
  unfold mlook at x ⊢
  split at x
  · split at x
    · rename_i h1; simp only [h1, if_true]; subst h1; exact lkP_mono hk x
    · exact x.elim
  · exact lkP_mono hk x
  · split at x
    · exact lkP_mono hk x
    · exact x.elim
  · exact x.elim
theorem mput_mono {P : Program} {kt : TypeId} {h : Heap} {m : Option Nat} {k v : Value} {K K' : Heap → Prop} (hk : ∀ v, K v → K' v) (x : mput P kt h m k v K) : mput P kt h m k v K' := by
  unfold mput at x ⊢
  split at x
  · split at x
    · rename_i h1; simp only [h1, if_true]; subst h1; exact mputP_mono hk x
    · exact x.elim
  · exact mputP_mono hk x
  · split at x
    · exact mputP_mono hk x
    · exact x.elim
  · exact x.elim
theorem mdel_mono {P : Program} {kt : TypeId} {h : Heap} {m : Option Nat} {k : Value} {K K' : Heap → Prop} (hk : ∀ v, K v → K' v) (x : mdel P kt h m k K) : mdel P kt h m k K' := by
  unfold mdel at x ⊢
  split at x
  · split at x
    · rename_i h1; simp only [h1, if_true]; subst h1; exact mdelP_mono hk x
    · exact x.elim
  · exact mdelP_mono hk x
  · split at x
    · exact mdelP_mono hk x
    · exact x.elim
  · exact x.elim
theorem mlenP_mono {h : Heap} {m : Option Nat} {K K' : Int → Prop} (hk : ∀ v, K v → K' v) (x : mlenP h m K) : mlenP h m K' := by
  cases m with
  | none => exact hk _ x
  | some r => obtain ⟨es, c, e, x⟩ := x; exact ⟨es, c, e, hk _ x⟩
theorem srcP_mono {h : Heap} {s n : Nat} {b : Option Addr} {K K' : Array Value → Prop} (hk : ∀ v, K v → K' v) (x : srcP h s n b K) : srcP h s n b K' := by
  cases b with
  | none => exact hk _ x
  | some a => obtain ⟨vs, e, e', x⟩ := x; exact ⟨vs, e, e', hk _ x⟩
theorem appP_mono {s by_ : Nat} {z : Array Value} {el : TypeId} {h : Heap} {b : Option Addr} {l c : Nat} {xb : Option Addr} {n : Nat} {K K' : Option Addr → Nat → Nat → Heap → Prop} (hk : ∀ a b c h, K a b c h → K' a b c h)
    (x : appP s by_ z el h b l c xb n K) : appP s by_ z el h b l c xb n K' := by
  refine ⟨fun hc => srcP_mono (fun vs y => ?_) (x.1 hc), fun hc => ?_⟩
  · cases b with
    | none => exact hk _ _ _ _ y
    | some a => exact sts_mono (fun _ z => hk _ _ _ _ z) y
  · obtain ⟨h1, h2, h3, h4⟩ := x.2 hc
    exact ⟨h1, h2, h3, srcP_mono (fun _ y => srcP_mono (fun _ z c h1 h2 => hk _ _ _ _ (z c h1 h2)) y) h4⟩
theorem ptrEqP_mono {h : Heap} {p q : Option Addr} {K K' : Bool → Prop} (hk : ∀ v, K v → K' v) (x : ptrEqP h p q K) : ptrEqP h p q K' := ⟨x.1, hk _ x.2⟩
theorem CallsV_mono {P : Program} {f : Value} {args : Array Value} {h : Heap} {K K' : Value → Heap → Prop} (hk : ∀ v h, K v h → K' v h) (x : CallsV P f args h K) : CallsV P f args h K' := by
  unfold CallsV at x ⊢
  split at x
  · exact x.mono hk
  · exact x.elim

theorem ite_mono {c : Prop} [Decidable c] {A A' : Prop} (hk : A → A') (x : if c then A else False) : if c then A' else False := by
  split
  · rename_i h; rw [if_pos h] at x; exact hk x
  · rename_i h; rw [if_neg h] at x; exact x

theorem nfP_mono {f : Value} {A B : Prop} (hk : A → B) (x : nfP f A) : nfP f B := by
  unfold nfP at x ⊢
  split at x
  · exact hk x
  · exact x.elim

theorem intP_mono {op : BinOp} {k k' : IntKind} {a b : Int} {K K' : Value → Prop} (hk : ∀ v, K v → K' v) (x : intP op k a k' b K) : intP op k a k' b K' := by
  unfold intP at x ⊢
  cases hd : decide (k = k') <;> rw [hd] at x <;> cases op <;> first
    | exact x.elim
    | exact hk _ x
    | exact ⟨x.1, hk _ x.2⟩

theorem strP_mono {op : BinOp} {a b : ByteArray} {K K' : Value → Prop} (hk : ∀ v, K v → K' v) (x : strP op a b K) : strP op a b K' := by
  unfold strP at x ⊢
  cases op <;> first
    | exact x.elim
    | exact hk _ x
    | exact ⟨x.1, hk _ x.2⟩

theorem pureP_mono {P : Program} {o : Oper} {ρ : Operand → Value} {K K' : Value → Prop} (hk : ∀ v, K v → K' v) (x : pureP P o ρ K) : pureP P o ρ K' := by
  unfold pureP at x ⊢
  obtain ⟨dst, op, type, pos, after, guard⟩ := o
  cases op with
  | move y => exact hk _ x
  | assign y => exact hk _ x
  | pick c a b =>
    simp only [] at x ⊢
    cases hc : ρ c <;> simp only [hc] at x ⊢
    exact condP_mono (hk _) (hk _) x
  | nilCheck y =>
    simp only [] at x ⊢
    split at x
    · exact nnP_mono (fun _ y => hk _ y) x
    · exact nfP_mono (hk _) x
  | slice t y lo hi mx =>
    simp only [] at x ⊢
    split at x
    · split at x
      · exact slcP_mono (fun _ _ _ y => hk _ y) x
      · exact x.elim
    · exact sstP_mono (fun _ y => hk _ y) x
    · split at x
      · exact ⟨x.1, x.2.1, x.2.2.1, x.2.2.2.1, x.2.2.2.2.1, x.2.2.2.2.2.1, x.2.2.2.2.2.2.1, hk _ x.2.2.2.2.2.2.2⟩
      · exact x.elim
    · exact x.elim
  | fieldAddr s y f =>
    simp only [] at x ⊢
    split at x
    · split at x
      · split at x
        · exact x.elim
        · exact hk _ x
      · exact x.elim
    · exact x.elim
  | field t y f =>
    simp only [] at x ⊢
    split at x
    · split at x
      · split at x
        · split at x
          · exact hk _ x
          · split at x
            · exact hk _ x
            · exact x.elim
        · exact x.elim
      · exact x.elim
    · exact x.elim
  | indexAddr t y ix =>
    simp only [] at x ⊢
    split at x
    · split at x
      · exact ixP_mono (fun _ y => hk _ y) x
      · exact x.elim
    · split at x
      · exact ixP_mono (fun _ y => hk _ y) x
      · exact x.elim
    · exact x.elim
  | index t y ix =>
    simp only [] at x ⊢
    split at x
    · split at x
      · rename_i h1; rw [if_pos h1]; exact idxL_mono (fun _ y => hk _ y) x
      · exact x.elim
    · obtain ⟨h0, b, hb, x⟩ := x; exact ⟨h0, b, hb, hk _ x⟩
    · exact x.elim
  | extract y i =>
    simp only [] at x ⊢
    split at x
    · split at x
      · exact hk _ x
      · exact x.elim
    · exact x.elim
  | build t parts =>
    simp only [] at x ⊢
    split at x
    · split at x
      · exact hk _ x
      · exact x.elim
    · exact x.elim
  | makeFunc fn first captured => exact hk _ x
  | convert src dst y =>
    simp only [] at x ⊢
    split at x
    · exact hk _ x
    · exact hk _ x
    · exact x.elim
  | unOp op t y =>
    simp only [] at x ⊢
    split at x
    · exact hk _ x
    · exact hk _ x
    · exact x.elim
  | binOp op t y z yt =>
    simp only [] at x ⊢
    split at x
    · exact intP_mono hk x
    · exact strP_mono hk x
    all_goals first
      | exact x.elim
      | (split at x <;> first | exact hk _ x | exact x.elim)
  | call c =>
    simp only [] at x ⊢
    split at x
    · split at x
      · split at x <;> first | exact hk _ x | exact x.elim
      · exact x.elim
    · split at x <;> first | exact hk _ x | exact x.elim
    · split at x <;> first | exact hk _ x | exact x.elim
    · exact x.elim
  | _ => exact x.elim

theorem heapP_mono {P : Program} {o : Oper} {ρ : Operand → Value} {h : Heap} {K K' : Value → Prop} (hk : ∀ v, K v → K' v) (x : heapP P o ρ h K) : heapP P o ρ h K' := by
  unfold heapP at x ⊢
  obtain ⟨dst, op, type, pos, after, guard⟩ := o
  cases op with
  | load t a =>
    simp only [] at x ⊢
    split at x
    · split at x
      · exact ldT_mono (fun _ y => hk _ y) x
      · exact x.elim
    · exact x.elim
  | lookup t m k ok =>
    simp only [] at x ⊢
    split at x
    · exact mlook_mono (fun v b y => d1_mono (fun _ z => hk _ z) y) x
    · exact x.elim
  | binOp op t y z yt =>
    cases op with
    | eql =>
      simp only [] at x ⊢
      split at x
      · split at x
        · exact x.elim
        · exact ptrEqP_mono (fun _ y => hk _ y) x
      · exact x.elim
    | neq =>
      simp only [] at x ⊢
      split at x
      · split at x
        · exact x.elim
        · exact ptrEqP_mono (fun _ y => hk _ y) x
      · exact x.elim
    | _ => exact x.elim
  | call c =>
    simp only [] at x ⊢
    split at x
    · split at x
      · split at x
        · exact mlenP_mono (fun _ y => hk _ y) x
        · exact x.elim
      · exact x.elim
    · exact x.elim
  | _ => exact x.elim

theorem effV_mono {P : Program} {o : Oper} {ρ : Operand → Value} {h : Heap} {K K' : Value → Heap → Prop} (hk : ∀ v h, K v h → K' v h) (x : effV P o ρ h K) : effV P o ρ h K' := by
  have hd : opH P o ρ h K → opH P o ρ h K' := opH_mono hk
  unfold effV at x ⊢
  obtain ⟨dst, op, type, pos, after, guard⟩ := o
  cases op with
  | store t a v =>
    simp only [] at x ⊢
    split at x
    · split at x
      · exact stT_mono (fun _ y => hk _ _ y) x
      · exact x.elim
    · exact x.elim
  | mapUpdate t m k v =>
    simp only [] at x ⊢
    split at x
    · exact mput_mono (fun _ y => hk _ _ y) x
    · exact x.elim
  | insert t m k v =>
    simp only [] at x ⊢
    split at x
    · exact mput_mono (fun _ y => hk _ _ y) x
    · exact x.elim
  | call c =>
    obtain ⟨callee, args, argTypes⟩ := c
    cases callee with
    | value f =>
      simp only [] at x ⊢
      have kr : ∀ v h', (dR (skind P type) v fun v => K v h') → (dR (skind P type) v fun v => K' v h') := fun v h' y => dR_mono (fun _ z => hk _ _ z) y
      exact CallsV_mono kr x
    | invoke r n => exact hd x
    | builtin b =>
      cases b with
      | append =>
        simp only [] at x ⊢
        split at x
        · split at x
          · split at x
            · split at x
              · split at x
                · exact x.elim
                · exact appP_mono (fun _ _ _ _ y => hk _ _ y) x
              · exact x.elim
            · exact x.elim
          · exact x.elim
        · exact x.elim
      | delete =>
        simp only [] at x ⊢
        split at x
        · split at x
          · exact mdel_mono (fun _ y => hk _ _ y) x
          · exact x.elim
        · exact x.elim
      | _ => exact hd x
  | _ => exact hd x

theorem opV_mono {P : Program} {o : Oper} {ρ : Operand → Value} {h : Heap} {K K' : Value → Heap → Prop} (hk : ∀ v h, K v h → K' v h) (x : opV P o ρ h K) : opV P o ρ h K' := by
  unfold opV at x ⊢
  split at x
  · exact pureP_mono (fun _ y => hk _ _ y) x
  · split at x
    · exact heapP_mono (fun _ y => hk _ _ y) x
    · exact effV_mono hk x

end Go.Rv
