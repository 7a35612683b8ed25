/- The typed reading of an operation is sound. -/
import Derived.Test.YtlibanaihidlhaaGreatRvEq
import Derived.Laws.Sem
namespace Go.Rv
set_option linter.unusedVariables false
set_option linter.unusedSimpArgs false

theorem hw_eqAgg {P : Program} {t : TypeId} {xs ys : Array Value} {h : Heap} {K : Bool → Heap → Prop} (pl : plainTy P 8 t = true) (ag : aggB P t = true)
    (ox : okL (kinds P 8 t) xs.toList = true) (oy : okL (kinds P 8 t) ys.toList = true) (x : K (eqL xs.toList ys.toList) h) : hw P (Op.equal t (.agg xs) (.agg ys)) h K := by
  have := hw_equalIn 8 t xs.toList ys.toList 10000 h K (by omega) pl ox oy x
  simp only [mkV, ag, if_true, Array.toArray_toList] at this
  exact this

theorem hw_frozen {P : Program} {h : Heap} {a : Addr} {b : Bool} {K : Bool → Heap → Prop} (e : hfrozen h a = b) (x : K b h) : hw P (frozen a) h K := by subst e; exact x
theorem hw_shape {P : Program} {h : Heap} {r : Nat} {b : Option (TypeId × Nat)} {K : Option (TypeId × Nat) → Heap → Prop} (e : hshape h r = b) (x : K b h) : hw P (shape r) h K := by subst e; exact x

theorem hw_eqGuardAgg {P : Program} {op : BinOp} {t : TypeId} {x y : Operand} {xs ys : Array Value} {h : Heap} {K : Unit → Heap → Prop} (g : P.eqGuardType P.depth t = false) (k : K () h) :
    hw P (eqGuard op t x y (.agg xs) (.agg ys)) h K := by
  unfold eqGuard
  have key : hw P (do if (!(← program).eqGuardType (← program).depth t) = true then pure () else do
      if ← Op.eqGuardIn Op.maxDepth t (Value.agg xs) (Value.agg ys) then unsupported (.noEntry "binop/eql: two nil values of an interface type with methods, in a part of a struct or an array")) h K := by
    show hw P (if (!P.eqGuardType P.depth t) = true then _ else _) h K
    rw [if_pos (by simp [g])]
    exact k
  cases op <;> first | exact k | exact key

theorem hw_freeAt {P : Program} {h : Heap} {a b : Addr} {K : Bool → Heap → Prop} (hab : a.block = b.block ∨ (FreeAt h a ∧ FreeAt h b)) (x : K (decide (a = b)) h) : hw P (sameAddr a b) h K := by
  unfold sameAddr
  by_cases e : a.block = b.block
  · have : (a.block == b.block) = true := by simpa using e
    rw [if_pos this]
    have : (a == b) = decide (a = b) := rfl
    exact this ▸ x
  · have : ¬ (a.block == b.block) = true := by simpa using e
    rw [if_neg this]
    obtain ⟨⟨c, t, hc, hl⟩, ⟨c', t', hc', hl'⟩⟩ := hab.resolve_left e
    have f1 : hfrozen h a = false := by simp [hfrozen, wd, World.frozen?, hc]
    have s1 : hshape h a.block = some (t, c.size) := by simp [hshape, wd, World.shape?, hc]
    have s2 : hshape h b.block = some (t', c'.size) := by simp [hshape, wd, World.shape?, hc']
    have f2 : hfrozen h b = false := by simp [hfrozen, wd, World.frozen?, hc']
    have f3 : ∀ n, hfrozen h { block := a.block, off := n } = false := fun n => by simp [hfrozen, wd, World.frozen?, hc]
    have f4 : ∀ n, hfrozen h { block := b.block, off := n } = false := fun n => by simp [hfrozen, wd, World.frozen?, hc']
    have ne : decide (a = b) = false := decide_eq_false fun q => e (q ▸ rfl)
    rw [ne] at x
    refine hw_bind' (hw_frozen f1 ?_)
    refine hw_bind' (hw_frozen f2 ?_)
    have nv : ∀ (q : Addr) (ty : TypeId) (sz : Nat) (K : Unit → Heap → Prop), hshape h q.block = some (ty, sz) → K () h → hw P (noView q) h K := by
      intro q ty sz K hs k
      unfold noView viewAt
      exact hw_bind' (hw_bind' (hw_shape hs k))
    refine hw_bind' (nv a _ _ _ s1 ?_)
    refine hw_bind' (nv b _ _ _ s2 ?_)
    have st : ∀ (q : Addr) (ty : TypeId) (sz : Nat) (K : Bool → Heap → Prop), hfrozen h q = false → hshape h q.block = some (ty, sz) → (∀ n, hfrozen h { block := q.block, off := n } = false) → K false h → hw P (stringish q) h K := by
      intro q ty sz K g1 g2 g3 k
      unfold stringish
      refine hw_bind' (hw_frozen g1 ?_)
      refine hw_bind' (hw_shape g2 ?_)
      exact hw_frozen (g3 _) k
    refine hw_bind' ?_
    unfold mayBeOne
    refine hw_bind' (st a _ _ _ f1 s1 f3 ?_)
    refine hw_bind' (st b _ _ _ f2 s2 f4 ?_)
    exact x

theorem hw_eqPtr {P : Program} {t e : TypeId} {p q : Option Addr} {h : Heap} {K : Bool → Heap → Prop} (hu : P.underlying t = some (.pointer e)) (hs : 0 < szOf P e)
    (x : ptrEqP h p q fun b => K b h) : hw P (Op.equal t (.pointer p) (.pointer q)) h K := by
  obtain ⟨hab, x⟩ := x
  show hw P (Op.equalIn (9999 + 1) t _ _) h K
  unfold Op.equalIn
  refine hw_bind' (hw_underlying hu ?_)
  cases p with
  | none => cases q with
    | none => exact x
    | some b => exact x
  | some a => cases q with
    | none => exact x
    | some b =>
      obtain ⟨i, hi⟩ : ∃ i, P.info? e = some i := by
        unfold szOf at hs
        cases hi : P.info? e with
        | none => simp [hi] at hs
        | some i => exact ⟨i, rfl⟩
      rw [szOf_eq hi] at hs
      show hw P (Go.sizeOf e >>= _) h K
      refine hw_bind' (hw_sizeOf hi ?_)
      rw [if_pos (by omega)]
      refine hw_freeAt (hab a b rfl rfl) ?_
      simpa using x

theorem hw_eqGuardNo {P : Program} {op : BinOp} {t : TypeId} {x y : Operand} {a b : Value} {h : Heap} {K : Unit → Heap → Prop} (n1 : ∀ cs ds, ¬ (a = .agg cs ∧ b = .agg ds)) (n2 : ¬ (a = .nilIface ∧ b = .nilIface)) (k : K () h) :
    hw P (eqGuard op t x y a b) h K := by
  unfold eqGuard
  have key : hw P (match a, b with
    | .nilIface, .nilIface => do
      if (x matches .const _) || (y matches .const _) then pure () else do
      if ← Op.eqGuardIn Op.maxDepth t a b then unsupported (.noEntry "binop/eql: two nil values of an interface type with methods, neither of them the literal nil")
    | .agg _, .agg _ => do
      if (!(← program).eqGuardType (← program).depth t) = true then pure () else do
      if ← Op.eqGuardIn Op.maxDepth t a b then unsupported (.noEntry "binop/eql: two nil values of an interface type with methods, in a part of a struct or an array")
    | _, _ => pure ()) h K := by
    split
    · exact (n2 ⟨rfl, rfl⟩).elim
    · exact (n1 _ _ ⟨rfl, rfl⟩).elim
    · exact k
  cases op <;> first | exact k | exact key

theorem hw_callFunc {P : Program} {f : FuncId} {args : Array Value} {h : Heap} {K : Next → Heap → Prop} (e : entersB P f = true) (x : K (.enter f args) h) : hw P (callFunc f args) h K := by
  unfold entersB at e
  unfold callFunc
  refine hw_bind' ?_
  show hw P (match P.funcs[f]? with | none => _ | some fn => _) h K
  cases hf : P.funcs[f]? with
  | none => simp [hf] at e
  | some fn =>
    rw [hf] at e
    simp only [Bool.and_eq_true, Bool.not_eq_true'] at e
    simp only [e.2, Bool.false_eq_true, if_false]
    have : fn.body.isNone = false := by cases hb : fn.body <;> simp_all
    simp only [this, Bool.false_eq_true, if_false]
    exact x

theorem und_of {P : Program} {t : TypeId} {d : TypeDesc} (e : P.underlying t = some d) : ∃ i, P.info? t = some i := by
  unfold Program.underlying at e
  cases hi : P.info? t with
  | none => simp [hi] at e
  | some i => exact ⟨i, rfl⟩

theorem hw_value {P : Program} {h : Heap} {K : Value → Heap → Prop} (s : Sem Value) (x : hw P s h K) : hw P (do pure (Next.value (← s))) h (nextK P K) := hw_bind' (hw_mono (fun a h y => y) s h x)
theorem hw_skip {P : Program} {h : Heap} {K : Value → Heap → Prop} (s : Sem Unit) (x : hw P s h fun _ h' => K undef h') : hw P (do s; pure Next.skip) h (nextK P K) := hw_bind' (hw_mono (fun a h y => y) s h x)

theorem ldT_und {P : Program} {t : TypeId} {h : Heap} {a : Addr} {K : Value → Prop} (x : ldT P t h a K) : K = K := rfl

theorem hw_mlook {P : Program} {t kt et : TypeId} {h : Heap} {m : Option Nat} {k : Value} {ok : Bool} {K : Value → Heap → Prop} (e : P.underlying t = some (.map kt et))
    (x : mlook P kt et h m k fun v b => K (if ok then .tuple #[v, .bool b] else v) h) : hw P (Instr.lookup t (.map m) k ok) h K := by
  unfold mlook at x
  cases hz : (P.info? et).bind (·.zero) with
  | none => rw [hz] at x; split at x <;> first | exact x.elim | (rename_i h1; cases h1)
  | some z =>
    rw [hz] at x
    obtain ⟨i, ei, ez⟩ : ∃ i, P.info? et = some i ∧ i.zero = some z := by
      cases hi : P.info? et with
      | none => simp [hi] at hz
      | some i => exact ⟨i, rfl, by simpa [hi] using hz⟩
    split at x
    · rename_i q q' n z' hk hz'
      cases hz'
      by_cases hq : q = q'
      · subst hq
        rw [if_pos rfl] at x
        exact hw_lookup e (intKey hk) ei ez x
      · rw [if_neg hq] at x; exact x.elim
    · rename_i s z' hk hz'
      cases hz'
      exact hw_lookup e (strKey hk) ei ez x
    · rename_i e' cs z' hk hz'
      cases hz'
      split at x
      · rename_i a b c h1 h2 h3
        obtain ⟨ie, hie, hsz⟩ : ∃ ie, P.info? e' = some ie ∧ ie.size = 1 := by
          cases hi : P.info? e' with
          | none => simp [hi] at h2
          | some i => exact ⟨i, rfl, by simpa [hi] using h2⟩
        have : (Value.agg cs) = trip (a, b, c) := by
          unfold trip
          congr 1
          apply Array.ext'
          simpa using h3
        rw [this]
        exact hw_lookup e (tripKey hk h1 hie hsz) ei ez x
      · exact x.elim
    · exact x.elim

theorem hw_mput {P : Program} {t kt et : TypeId} {h : Heap} {m : Option Nat} {k v : Value} {K : Unit → Heap → Prop} (e : P.underlying t = some (.map kt et))
    (x : mput P kt h m k v fun h' => K () h') : hw P (Instr.mapUpdate t (.map m) k v) h K := by
  unfold mput at x
  split at x
  · rename_i q q' n hk
    by_cases hq : q = q'
    · subst hq
      rw [if_pos rfl] at x
      exact hw_mapUpdate e (intKey hk) x
    · rw [if_neg hq] at x; exact x.elim
  · rename_i s hk
    exact hw_mapUpdate e (strKey hk) x
  · rename_i e' cs hk
    split at x
    · rename_i a b c h1 h2 h3
      obtain ⟨ie, hie, hsz⟩ : ∃ ie, P.info? e' = some ie ∧ ie.size = 1 := by
        cases hi : P.info? e' with
        | none => simp [hi] at h2
        | some i => exact ⟨i, rfl, by simpa [hi] using h2⟩
      have : (Value.agg cs) = trip (a, b, c) := by
        unfold trip
        congr 1
        apply Array.ext'
        simpa using h3
      rw [this]
      exact hw_mapUpdate e (tripKey hk h1 hie hsz) x
    · exact x.elim
  · exact x.elim

theorem hw_mdel {P : Program} {t kt et a2 ty : TypeId} {h : Heap} {m : Option Nat} {k : Value} {K : Value → Heap → Prop} (e : P.underlying t = some (.map kt et))
    (x : mdel P kt h m k fun h' => K (.tuple #[]) h') : hw P (Builtin.delete_ #[t, a2] ty #[.map m, k]) h K := by
  unfold mdel at x
  split at x
  · rename_i q q' n hk
    by_cases hq : q = q'
    · subst hq
      rw [if_pos rfl] at x
      exact hw_delete e (intKey hk) x
    · rw [if_neg hq] at x; exact x.elim
  · rename_i s hk
    exact hw_delete e (strKey hk) x
  · rename_i e' cs hk
    split at x
    · rename_i a b c h1 h2 h3
      obtain ⟨ie, hie, hsz⟩ : ∃ ie, P.info? e' = some ie ∧ ie.size = 1 := by
        cases hi : P.info? e' with
        | none => simp [hi] at h2
        | some i => exact ⟨i, rfl, by simpa [hi] using h2⟩
      have : (Value.agg cs) = trip (a, b, c) := by
        unfold trip
        congr 1
        apply Array.ext'
        simpa using h3
      rw [this]
      exact hw_delete e (tripKey hk h1 hie hsz) x
    · exact x.elim
  · exact x.elim

theorem optI_of {ρ : Operand → Value} {x : Option Operand} {r : Option Int} (h : optI ρ x = some r) : ∃ k, x.map ρ = r.map (Value.int k) := by
  cases x with
  | none => simp [optI] at h; subst h; exact ⟨.i64, rfl⟩
  | some y =>
    simp only [optI] at h
    split at h
    · rename_i n hn; cases h; exact ⟨.i64, by simp [hn]⟩
    · cases h

theorem hw_sliceAt {P : Program} {t : TypeId} {x : Value} {lo hi mx : Option Value} {h : Heap} {K : Value → Heap → Prop} {d : TypeDesc} (e : P.underlying t = some d) (n : ∀ k e, d ≠ .array k e)
    (y : hw P (Instr.slice t x lo hi mx) h K) : hw P (Instr.sliceAt t x lo hi mx) h K := by
  unfold Instr.sliceAt
  refine hw_bind' (hw_underlying e ?_)
  split
  · exact (n _ _ rfl).elim
  · exact y

theorem parts_part {P : Program} {h : Heap} {e : TypeId} {de : TypeDesc} {ie : TypeInfo} {cs : List Value} {K : Value → Heap → Prop} (hu : P.underlying e = some de) (hi : P.info? e = some ie)
    (h1 : aggB P e = false → ie.size = 1) : ∀ (n j : Nat) (pre : List Value) (cs : List Value), pre.length = j * ie.size → cs.length = n * ie.size → ∀ (i : Nat), i < n →
      idxC (partsOf (aggB P e) ie.size cs n) j ((j + i : Nat) : Int) (fun v => K v h) → hw P (part e (pre ++ cs).toArray ((j + i) * ie.size)) h K
  | 0, j, pre, cs, hp, hc, i, hin, x => by omega
  | n + 1, j, pre, cs, hp, hc, i, hin, x => by
    unfold partsOf idxC at x
    cases i with
    | zero =>
      have x := x.1 (by simp)
      unfold part
      refine hw_bind' (hw_isAgg hu ?_)
      cases hg : aggB P e with
      | true =>
        rw [hg] at x
        simp only [if_true] at x ⊢
        refine hw_bind' (hw_sizeOf hi ?_)
        have : (pre ++ cs).toArray.extract ((j + 0) * ie.size) ((j + 0) * ie.size + ie.size) = (cs.take ie.size).toArray := by
          apply Array.ext'
          simp [← hp, List.take_append, List.drop_append]
        rw [this]; exact x
      | false =>
        rw [hg] at x
        simp only [Bool.false_eq_true, if_false] at x ⊢
        have hs := h1 hg
        cases cs with
        | nil => rw [hs] at hc; simp at hc
        | cons c cs =>
          have : (pre ++ c :: cs).toArray[(j + 0) * ie.size]? = some c := by simp [← hp]
          rw [this]; exact x
    | succ i =>
      have x := x.2
      have := parts_part hu hi h1 (K := K) (cs := cs) n (j + 1) (pre ++ cs.take ie.size) (cs.drop ie.size) (by
        have : ie.size ≤ cs.length := by rw [hc, Nat.succ_mul]; omega
        simp [hp, Nat.min_eq_left this, Nat.succ_mul]) (by simp [hc, Nat.succ_mul]) i (by omega) (by
        have e : ((j + 1 + i : Nat) : Int) = ((j + (i + 1) : Nat) : Int) := by omega
        rw [e]; exact x)
      rw [List.append_assoc, List.take_append_drop, show j + 1 + i = j + (i + 1) by omega] at this
      exact this

theorem hw_idxL {P : Program} {h : Heap} {t e : TypeId} {de : TypeDesc} {ie : TypeInfo} {len : Nat} {cs : Array Value} {k : IntKind} {n : Int} {K : Value → Heap → Prop} (ht : P.underlying t = some (.array len e)) (hu : P.underlying e = some de) (hi : P.info? e = some ie)
    (hc : cs.size = len * ie.size) (h1 : aggB P e = false → ie.size = 1) (x : idxL (partsOf (aggB P e) ie.size cs.toList len) n fun v => K v h) : hw P (Instr.index t (.agg cs) (.int k n)) h K := by
  obtain ⟨h0, hl, x⟩ := x
  have pl : ∀ (n : Nat) (cs : List Value), (partsOf (aggB P e) ie.size cs n).length = n := by
    intro n
    induction n with
    | zero => intro cs; rfl
    | succ n ih => intro cs; simp [partsOf, ih]
  rw [pl] at hl
  unfold Instr.index
  show hw P (underlying t >>= _) h K
  refine hw_bind' (hw_underlying ht ?_)
  simp only [h0, hl, and_self, if_true]
  refine hw_bind' (hw_sizeOf hi ?_)
  have := parts_part (K := K) (cs := []) hu hi h1 len 0 [] cs.toList (by simp) (by simpa using hc) n.toNat (by omega) (by
    have e : ((0 + n.toNat : Nat) : Int) = n := by omega
    rw [e]; exact x)
  simpa using this

theorem und_tuple {P : Program} {t : TypeId} {i : TypeInfo} (e : P.info? t = some i) (n : ∀ nm u, i.desc ≠ .named nm u) : P.underlying t = some i.desc := by
  unfold Program.underlying
  rw [e]
  obtain ⟨desc, str, size, bytes, hp, al, fa, z, cm, ms⟩ := i
  cases desc <;> first | rfl | exact (n _ _ rfl).elim

theorem hw_eqNilP {P : Program} {t e : TypeId} {p : Option Addr} {h : Heap} {K : Bool → Heap → Prop} (hu : P.underlying t = some (.pointer e)) (x : K p.isNone h) : hw P (Op.equal t (.pointer p) (.pointer none)) h K := by
  show hw P (Op.equalIn (9999 + 1) t _ _) h K
  unfold Op.equalIn
  refine hw_bind' (hw_underlying hu ?_)
  cases p with
  | none => exact x
  | some a => exact x

theorem hw_eqNilS {P : Program} {t e : TypeId} {b : Option Addr} {l c l2 c2 : Nat} {h : Heap} {K : Bool → Heap → Prop} (hu : P.underlying t = some (.slice e)) (x : K b.isNone h) : hw P (Op.equal t (.slice b l c) (.slice none l2 c2)) h K := by
  show hw P (Op.equalIn (9999 + 1) t _ _) h K
  unfold Op.equalIn
  refine hw_bind' (hw_underlying hu ?_)
  cases b with
  | none => exact x
  | some a => exact x

theorem hw_eqNilM {P : Program} {t k e : TypeId} {b : Option Nat} {h : Heap} {K : Bool → Heap → Prop} (hu : P.underlying t = some (.map k e)) (x : K b.isNone h) : hw P (Op.equal t (.map b) (.map none)) h K := by
  show hw P (Op.equalIn (9999 + 1) t _ _) h K
  unfold Op.equalIn
  refine hw_bind' (hw_underlying hu ?_)
  cases b with
  | none => exact x
  | some a => exact x

theorem hw_mapM_places {P : Program} {h : Heap} : ∀ (fs : List Field) (K : List (Nat × Nat) → Heap → Prop), (fs.all fun f => (P.info? f.type).isSome) = true → K (fs.map fun f => (f.offset, szOf P f.type)) h →
    hw P (fs.mapM fun f => do pure (f.offset, ← Go.sizeOf f.type)) h K
  | [], K, _, x => x
  | f :: fs, K, hs, x => by
    simp only [List.all_cons, Bool.and_eq_true] at hs
    obtain ⟨i, hi⟩ := Option.isSome_iff_exists.1 hs.1
    rw [List.mapM_cons]
    refine hw_bind' (hw_bind' (hw_sizeOf hi ?_))
    refine hw_bind' (hw_mapM_places fs _ hs.2 ?_)
    rw [szOf_eq hi |>.symm]
    exact x

theorem pure_sound {P : Program} {o : Oper} {ρ : Operand → Value} {h : Heap} {K : Value → Heap → Prop} (x : pureP P o ρ fun v => K v h) : opH P o ρ h K := by
  unfold pureP at x
  obtain ⟨dst, op, type, pos, after, guard⟩ := o
  cases op with
  | move y => exact x
  | assign y => exact x
  | pick c a b =>
    unfold opH execOp
    simp only [] at x ⊢
    cases hc : ρ c <;> rw [hc] at x <;> try exact x.elim
    rename_i t
    cases t <;> exact x
  | nilCheck y =>
    simp only [] at x
    unfold opH execOp
    split at x
    · rename_i p hp
      cases p with
      | none => exact x.elim
      | some a => simp only [hp]; exact x
    · unfold nfP at x
      split at x
      · rename_i g u v hf; simp only [hf] at x ⊢; exact x
      · exact x.elim
  | slice t y lo hi mx =>
    simp only [] at x
    split at x
    · rename_i e b l c lo' hi' mx' hu hy h1 h2 h3
      split at x
      · rename_i i hi'
        obtain ⟨k1, e1⟩ := optI_of h1
        obtain ⟨k2, e2⟩ := optI_of h2
        obtain ⟨k3, e3⟩ := optI_of h3
        show hw P (do pure (Next.value (← Instr.sliceAt t (ρ y) (lo.map ρ) (hi.map ρ) (mx.map ρ)))) h (nextK P K)
        rw [hy, e1, e2, e3]
        exact hw_value _ (hw_sliceAt hu (by intro _ _ q; cases q) (hw_slice hu hi' x))
      · exact x.elim
    · rename_i s lo' hi' hu hy h1 h2 h3
      obtain ⟨k1, e1⟩ := optI_of h1
      obtain ⟨k2, e2⟩ := optI_of h2
      obtain ⟨k3, e3⟩ := optI_of h3
      show hw P (do pure (Next.value (← Instr.sliceAt t (ρ y) (lo.map ρ) (hi.map ρ) (mx.map ρ)))) h (nextK P K)
      rw [hy, e1, e2, e3]
      exact hw_value _ (hw_sliceAt hu (by intro _ _ q; cases q) (hw_sliceStr hu x))
    · rename_i n e a lo' hi' mx' hu hy h1 h2 h3
      split at x
      · rename_i i hi'
        obtain ⟨k1, e1⟩ := optI_of h1
        obtain ⟨k2, e2⟩ := optI_of h2
        obtain ⟨k3, e3⟩ := optI_of h3
        show hw P (do pure (Next.value (← Instr.sliceAt t (ρ y) (lo.map ρ) (hi.map ρ) (mx.map ρ)))) h (nextK P K)
        rw [hy, e1, e2, e3]
        exact hw_value _ (hw_sliceArr hu hi' x)
      · exact x.elim
    · exact x.elim
  | fieldAddr s y f =>
    simp only [] at x
    split at x
    · rename_i fs a hu hy
      split at x
      · rename_i fd hf
        split at x
        · exact x.elim
        · rename_i n hn
          show hw P (do pure (Next.value (← Instr.fieldAt s (ρ y) f))) h (nextK P K)
          rw [hy]
          refine hw_value _ ?_
          unfold Instr.fieldAt
          refine hw_bind' (hw_underlying hu ?_)
          simp only [hf]
          refine hw_bind' ?_
          show hw P (fieldPlace a fd >>= _) h K
          refine hw_bind' ?_
          unfold fieldPlace
          obtain ⟨i, hi⟩ : ∃ i, P.info? fd.type = some i := by
            unfold szOf at hn
            cases hi : P.info? fd.type with
            | none => rw [hi] at hn; cases hn
            | some i => exact ⟨i, rfl⟩
          refine hw_bind' (hw_sizeOf hi ?_)
          rw [szOf_eq hi] at hn
          rw [if_neg (by omega)]
          exact x
      · exact x.elim
    · exact x.elim
  | field t y f =>
    simp only [] at x
    split at x
    · rename_i fs cs hu hy
      split at x
      · rename_i fd hf
        split at x
        · rename_i d i hd hi
          show hw P (do pure (Next.value (← Instr.field t (ρ y) f))) h (nextK P K)
          rw [hy]
          refine hw_value _ ?_
          unfold Instr.field
          refine hw_bind' (hw_underlying hu ?_)
          simp only [hf]
          refine hw_bind' ?_
          show hw P (part fd.type cs fd.offset) h K
          unfold part
          refine hw_bind' (hw_isAgg hd ?_)
          split at x
          · rename_i hg
            rw [hg]
            simp only [if_true]
            exact hw_bind' (hw_sizeOf hi x)
          · rename_i hg
            rw [hg]
            simp only [Bool.false_eq_true, if_false]
            split at x
            · rename_i v hv
              have : cs[fd.offset]? = some v := by simpa using hv
              simp only [this]
              exact x
            · exact x.elim
        · exact x.elim
      · exact x.elim
    · exact x.elim
  | indexAddr t y ix =>
    simp only [] at x
    split at x
    · rename_i e b l c k n hu hy hi
      split at x
      · rename_i i hi'
        show hw P (do pure (Next.value (← Instr.indexAt t (ρ y) (ρ ix)))) h (nextK P K)
        rw [hy, hi]
        exact hw_value _ (hw_indexAt hu hi' x)
      · exact x.elim
    · rename_i len e a k n hu hy hi
      split at x
      · rename_i i hi'
        show hw P (do pure (Next.value (← Instr.indexAt t (ρ y) (ρ ix)))) h (nextK P K)
        rw [hy, hi]
        exact hw_value _ (hw_indexAtArr hu hi' x)
      · exact x.elim
    · exact x.elim
  | index t y ix =>
    simp only [] at x
    split at x
    · rename_i len e cs k n hu hy hi
      by_cases hs : cs.size = len * szOf P e ∧ (P.info? e).isSome ∧ (P.underlying e).isSome ∧ (aggB P e = false → szOf P e = 1)
      · rw [if_pos hs] at x
        obtain ⟨h1, h2, h3, h4⟩ := hs
        obtain ⟨i, hi'⟩ := Option.isSome_iff_exists.1 h2
        obtain ⟨de, hde⟩ := Option.isSome_iff_exists.1 h3
        rw [szOf_eq hi'] at x h1 h4
        show hw P (do pure (Next.value (← Instr.index t (ρ y) (ρ ix)))) h (nextK P K)
        rw [hy, hi]
        exact hw_value _ (hw_idxL hu hde hi' h1 h4 x)
      · rw [if_neg hs] at x; exact x.elim
    · rename_i s k n hu hy hi
      obtain ⟨h0, b, hb, x⟩ := x
      show hw P (do pure (Next.value (← Instr.index t (ρ y) (ρ ix)))) h (nextK P K)
      rw [hy, hi]
      refine hw_value _ ?_
      unfold Instr.index
      show hw P (underlying t >>= _) h K
      refine hw_bind' (hw_underlying hu ?_)
      have e1 : s[n.toNat]? = some b := by
        have e2 : s.data[n.toNat]? = some b := by simpa using hb
        have hl : n.toNat < s.data.size := by
          rcases Nat.lt_or_ge n.toNat s.data.size with h1 | h1
          · exact h1
          · rw [Array.getElem?_eq_none h1] at e2; cases e2
        rw [Array.getElem?_eq_getElem hl] at e2
        have hl' : n.toNat < s.size := hl
        rw [getElem?_pos s n.toNat hl']
        exact e2
      simp only [h0, if_true, e1]
      exact x
    · exact x.elim
  | extract y i =>
    simp only [] at x
    split at x
    · rename_i vs hy
      split at x
      · rename_i v hv
        show hw P (do pure (Next.value (← Instr.extract (ρ y) i))) h (nextK P K)
        rw [hy]
        refine hw_value _ ?_
        unfold Instr.extract
        have : vs[i]? = some v := by simpa using hv
        simp only [this]
        exact x
      · exact x.elim
    · exact x.elim
  | build t parts =>
    simp only [] at x
    split at x
    · rename_i z pl hz hp
      obtain ⟨i, hi, hiz⟩ : ∃ i, P.info? t = some i ∧ i.zero = some z := by
        cases hi : P.info? t with
        | none => simp [hi] at hz
        | some i => exact ⟨i, rfl, by simpa [hi] using hz⟩
      split at x
      · rename_i cs hcs
        show hw P (do pure (Next.value (← Instr.build t (parts.map fun (i, x) => (i, ρ x))))) h (nextK P K)
        refine hw_value _ ?_
        unfold Instr.build
        refine hw_bind' (hw_zero hi hiz ?_)
        unfold placesOf at hp
        split at hp
        · rename_i fs hu
          split at hp
          · rename_i hs
            cases hp
            refine hw_bind' (hw_underlying hu ?_)
            have e1 : (fs.mapM fun f => (do pure (f.offset, ← Go.sizeOf f.type) : Sem (Nat × Nat))) = ((fs.toList.mapM fun f => (do pure (f.offset, ← Go.sizeOf f.type) : Sem (Nat × Nat))) >>= fun l => pure l.toArray) := by
              rw [Array.mapM_eq_mapM_toList]
              rfl
            show hw P ((fs.mapM fun f => (do pure (f.offset, ← Go.sizeOf f.type) : Sem (Nat × Nat))) >>= _) h K
            rw [e1]
            refine hw_bind' (hw_bind' (hw_mapM_places fs.toList _ hs ?_))
            have e2 : (fun i : Nat => (List.map (fun (f : Field) => (f.offset, szOf P f.type)) fs.toList).toArray[i]?) = fun i => (fs.toList[i]?).map fun (f : Field) => (f.offset, szOf P f.type) := by
              funext i
              simp
            show hw P (match Instr.fill (fun i => (List.map (fun (f : Field) => (f.offset, szOf P f.type)) fs.toList).toArray[i]?) z.cells _ with | some cells => pure (Value.agg cells) | _ => _) h K
            rw [e2, hcs]
            exact x
          · cases hp
        · rename_i n e hu
          split at hp
          · rename_i ie hie
            cases hp
            refine hw_bind' (hw_underlying hu ?_)
            refine hw_bind' (hw_sizeOf hie ?_)
            simp only [hcs]
            exact x
          · cases hp
        · cases hp
      · exact x.elim
    · exact x.elim
  | makeFunc fn first captured => exact x
  | convert src dst y =>
    simp only [] at x
    split at x
    · rename_i k d k' n h1 h2 hy
      show hw P (do pure (Next.value (← Go.convert src dst (ρ y)))) h (nextK P K)
      rw [hy]
      refine hw_value _ ?_
      unfold Go.convert
      refine hw_bind' (hw_underlying h2 ?_)
      refine hw_bind' (hw_underlying h1 ?_)
      cases d <;> exact x
    · rename_i s h1 h2 hy
      show hw P (do pure (Next.value (← Go.convert src dst (ρ y)))) h (nextK P K)
      rw [hy]
      refine hw_value _ ?_
      unfold Go.convert
      refine hw_bind' (hw_underlying h2 ?_)
      refine hw_bind' (hw_underlying h1 ?_)
      exact x
    · exact x.elim
  | unOp op t y =>
    simp only [] at x
    split at x
    · rename_i k n hy
      show hw P (do pure (Next.value (← Op.unary .neg (ρ y)))) h (nextK P K)
      rw [hy]
      exact hw_value _ x
    · rename_i b hy
      show hw P (do pure (Next.value (← Op.unary .not (ρ y)))) h (nextK P K)
      rw [hy]
      exact hw_value _ x
    · exact x.elim
  | binOp op t y z yt =>
    simp only [] at x
    have seq : ∀ (u v : Value), ρ y = u → ρ z = v → hw P (do eqGuard op t y z u v; Go.binOp op t u v) h K → opH P ⟨dst, .binOp op t y z yt, type, pos, after, guard⟩ ρ h K := by
      intro u v h1 h2 q
      show hw P (do pure (Next.value (← (do eqGuard op t y z (ρ y) (ρ z); Go.binOp op t (ρ y) (ρ z))))) h (nextK P K)
      rw [h1, h2]
      exact hw_value _ q
    split at x
    · rename_i k a k' b h1 h2
      refine seq _ _ h1 h2 (hw_bind' (hw_eqGuardNo (by rintro _ _ ⟨q, _⟩; cases q) (by rintro ⟨q, _⟩; cases q) ?_))
      unfold intP at x
      have kk : ∀ {A : Prop}, (match decide (k = k') with | false => False | true => A) → k = k' ∧ A := by
        intro A q
        cases hd : decide (k = k') with
        | false => rw [hd] at q; exact q.elim
        | true => rw [hd] at q; exact ⟨of_decide_eq_true hd, q⟩
      cases op with
      | shl =>
        obtain ⟨h0, x⟩ := x
        show hw P (Op.shift .shl k a k' b) h K
        unfold Op.shift
        rw [if_neg (by omega)]
        exact x
      | shr =>
        obtain ⟨h0, x⟩ := x
        show hw P (Op.shift .shr k a k' b) h K
        unfold Op.shift
        rw [if_neg (by omega)]
        exact x
      | quo =>
        obtain ⟨rfl, h0, x⟩ := kk x
        show hw P (if k ≠ k then _ else _) h K
        rw [if_neg (by simp)]
        show hw P (Op.intDiv .quo k a b) h K
        unfold Op.intDiv
        rw [if_neg h0]
        exact x
      | rem =>
        obtain ⟨rfl, h0, x⟩ := kk x
        show hw P (if k ≠ k then _ else _) h K
        rw [if_neg (by simp)]
        show hw P (Op.intDiv .rem k a b) h K
        unfold Op.intDiv
        rw [if_neg h0]
        exact x
      | andNot => exact (kk x).2.elim
      | _ =>
        obtain ⟨rfl, x⟩ := kk x
        simp only [decide_true] at x
        show hw P (if k ≠ k then _ else _) h K
        rw [if_neg (by simp)]
        exact x
    · rename_i a b h1 h2
      refine seq _ _ h1 h2 (hw_bind' (hw_eqGuardNo (by rintro _ _ ⟨q, _⟩; cases q) (by rintro ⟨q, _⟩; cases q) ?_))
      unfold strP at x
      cases op with
      | add =>
        obtain ⟨h0, x⟩ := x
        show hw P (Op.stringOp .add a b) h K
        unfold Op.stringOp
        simp only []
        rw [if_neg (by omega)]
        exact x
      | _ => first | exact x | exact x.elim
    · rename_i a b h1 h2
      refine seq _ _ h1 h2 (hw_bind' (hw_eqGuardNo (by rintro _ _ ⟨q, _⟩; cases q) (by rintro ⟨q, _⟩; cases q) ?_))
      split at x
      · rename_i hu
        show hw P (do pure (.bool (← Op.equal t (.bool a) (.bool b)))) h K
        refine hw_bind' ?_
        show hw P (Op.equalIn (9999 + 1) t _ _) h _
        unfold Op.equalIn
        exact hw_bind' (hw_underlying hu x)
      · rename_i hu
        show hw P (do pure (.bool (!(← Op.equal t (.bool a) (.bool b))))) h K
        refine hw_bind' ?_
        show hw P (Op.equalIn (9999 + 1) t _ _) h _
        unfold Op.equalIn
        exact hw_bind' (hw_underlying hu x)
      · exact x.elim
    · rename_i p h1 h2
      refine seq _ _ h1 h2 (hw_bind' (hw_eqGuardNo (by rintro _ _ ⟨q, _⟩; cases q) (by rintro ⟨q, _⟩; cases q) ?_))
      split at x
      · rename_i e hu
        have hb : Go.binOp .eql t (.pointer p) (.pointer none) = (do pure (.bool (← Op.equal t (.pointer p) (.pointer none)))) := by cases p <;> rfl
        rw [hb]
        exact hw_bind' (hw_eqNilP hu x)
      · rename_i e hu
        have hb : Go.binOp .neq t (.pointer p) (.pointer none) = (do pure (.bool (!(← Op.equal t (.pointer p) (.pointer none))))) := by cases p <;> rfl
        rw [hb]
        exact hw_bind' (hw_eqNilP hu x)
      · exact x.elim
    · rename_i b l c l2 c2 h1 h2
      refine seq _ _ h1 h2 (hw_bind' (hw_eqGuardNo (by rintro _ _ ⟨q, _⟩; cases q) (by rintro ⟨q, _⟩; cases q) ?_))
      split at x
      · rename_i e hu
        show hw P (do pure (.bool (← Op.equal t _ _))) h K
        exact hw_bind' (hw_eqNilS hu x)
      · rename_i e hu
        show hw P (do pure (.bool (!(← Op.equal t _ _)))) h K
        exact hw_bind' (hw_eqNilS hu x)
      · exact x.elim
    · rename_i b h1 h2
      refine seq _ _ h1 h2 (hw_bind' (hw_eqGuardNo (by rintro _ _ ⟨q, _⟩; cases q) (by rintro ⟨q, _⟩; cases q) ?_))
      split at x
      · rename_i k e hu
        show hw P (do pure (.bool (← Op.equal t _ _))) h K
        exact hw_bind' (hw_eqNilM hu x)
      · rename_i k e hu
        show hw P (do pure (.bool (!(← Op.equal t _ _)))) h K
        exact hw_bind' (hw_eqNilM hu x)
      · exact x.elim
    · rename_i xs ys h1 h2
      split at x
      · rename_i hc
        simp only [Bool.and_eq_true, Bool.not_eq_true'] at hc
        obtain ⟨⟨⟨⟨c1, c2⟩, c3⟩, c4⟩, c5⟩ := hc
        refine seq _ _ h1 h2 (hw_bind' (hw_eqGuardAgg c3 ?_))
        show hw P (do pure (.bool (← Op.equal t _ _))) h K
        exact hw_bind' (hw_eqAgg c1 c2 c4 c5 x)
      · rename_i hc
        simp only [Bool.and_eq_true, Bool.not_eq_true'] at hc
        obtain ⟨⟨⟨⟨c1, c2⟩, c3⟩, c4⟩, c5⟩ := hc
        refine seq _ _ h1 h2 (hw_bind' (hw_eqGuardAgg c3 ?_))
        show hw P (do pure (.bool (!(← Op.equal t _ _)))) h K
        exact hw_bind' (hw_eqAgg c1 c2 c4 c5 x)
      · exact x.elim
    · exact x.elim
  | call c =>
    obtain ⟨callee, args, argTypes⟩ := c
    simp only [] at x
    cases callee with
    | value f => exact x.elim
    | invoke r n => exact x.elim
    | builtin b =>
      cases b <;> simp only [] at x <;> try exact x.elim
      case len =>
        split at x
        · rename_i t u h1 h2
          show hw P (do pure (Next.value (← Builtin.len_ argTypes type (args.map ρ)))) h (nextK P K)
          have e1 : argTypes = #[t] := Array.ext' (by simpa using h1)
          have e2 : args.map ρ = #[u] := Array.ext' (by simpa using h2)
          rw [e1, e2]
          refine hw_value _ ?_
          unfold Builtin.len_
          show hw P (underlying t >>= _) h K
          split at x
          · rename_i s hu; exact hw_bind' (hw_underlying hu x)
          · rename_i e bb n c hu; exact hw_bind' (hw_underlying hu x)
          · refine hw_bind' (hw_underlying (by assumption) ?_)
            exact x
          · exact x.elim
        · exact x.elim
      case max =>
        split at x
        · rename_i k a k' b h2
          show hw P (do pure (Next.value (← Builtin.max_ argTypes type (args.map ρ)))) h (nextK P K)
          refine hw_value _ ?_
          unfold Builtin.max_
          rw [h2]
          exact x
        · exact x.elim
      case min =>
        split at x
        · rename_i k a k' b h2
          show hw P (do pure (Next.value (← Builtin.min_ argTypes type (args.map ρ)))) h (nextK P K)
          refine hw_value _ ?_
          unfold Builtin.min_
          rw [h2]
          exact x
        · exact x.elim
  | _ => exact x.elim

theorem heap_sound {P : Program} {o : Oper} {ρ : Operand → Value} {h : Heap} {K : Value → Heap → Prop} (x : heapP P o ρ h fun v => K v h) : opH P o ρ h K := by
  unfold heapP at x
  obtain ⟨dst, op, type, pos, after, guard⟩ := o
  cases op with
  | load t a =>
    simp only [] at x
    split at x
    · rename_i ad ha
      split at x
      · rename_i d hu
        obtain ⟨i, hi⟩ := und_of hu
        show hw P (do pure (Next.value (← Instr.loadAt t (ρ a)))) h (nextK P K)
        rw [ha]
        exact hw_value _ (hw_loadVar hu hi x)
      · exact x.elim
    · exact x.elim
  | lookup t m k ok =>
    simp only [] at x
    split at x
    · rename_i kt et r hu hm
      show hw P (do pure (Next.value (← Instr.lookup t (ρ m) (ρ k) ok))) h (nextK P K)
      rw [hm]
      refine hw_value _ (hw_mlook hu ?_)
      have this : ∀ (v : Value) (b : Bool), (d1 (skind1 P et) v fun v => K (if ok then .tuple #[v, .bool b] else v) h) → K (if ok then .tuple #[v, .bool b] else v) h := fun v b y => d1_of y
      have mono : ∀ {A B : Value → Bool → Prop}, (∀ v b, A v b → B v b) → mlook P kt et h r (ρ k) A → mlook P kt et h r (ρ k) B := by
        intro A B hab q
        unfold mlook at q ⊢
        have lk : ∀ {κ : Type} [DecidableEq κ] (kf : κ → Value) (j : κ) (z : Value), lkP kf h r j z A → lkP kf h r j z B := by
          intro κ _ kf j z q
          unfold lkP at q ⊢
          cases r with
          | none => exact hab _ _ q
          | some r => obtain ⟨es, c, e1, e2⟩ := q; exact ⟨es, c, e1, hab _ _ e2⟩
        split at q
        · split at q
          · rename_i hq; subst hq; simp only [if_true]; exact lk _ _ _ q
          · exact q.elim
        · exact lk _ _ _ q
        · split at q
          · exact lk _ _ _ q
          · exact q.elim
        · exact q.elim
      exact mono this x
    · exact x.elim
  | binOp op t y z yt =>
    have seq : ∀ (u v : Value), ρ y = u → ρ z = v → hw P (do eqGuard op t y z u v; Go.binOp op t u v) h K → opH P ⟨dst, .binOp op t y z yt, type, pos, after, guard⟩ ρ h K := by
      intro u v h1 h2 q
      show hw P (do pure (Next.value (← (do eqGuard op t y z (ρ y) (ρ z); Go.binOp op t (ρ y) (ρ z))))) h (nextK P K)
      rw [h1, h2]
      exact hw_value _ q
    cases op with
    | eql =>
      simp only [] at x
      split at x
      · rename_i e p q hu h1 h2
        split at x
        · exact x.elim
        · rename_i n hs
          refine seq _ _ h1 h2 (hw_bind' (hw_eqGuardNo (by rintro _ _ ⟨q, _⟩; cases q) (by rintro ⟨q, _⟩; cases q) ?_))
          have hb : Go.binOp .eql t (.pointer p) (.pointer q) = (do pure (.bool (← Op.equal t (.pointer p) (.pointer q)))) := by
            cases p <;> cases q <;> rfl
          rw [hb]
          exact hw_bind' (hw_eqPtr hu (by omega) x)
      · exact x.elim
    | neq =>
      simp only [] at x
      split at x
      · rename_i e p q hu h1 h2
        split at x
        · exact x.elim
        · rename_i n hs
          refine seq _ _ h1 h2 (hw_bind' (hw_eqGuardNo (by rintro _ _ ⟨q, _⟩; cases q) (by rintro ⟨q, _⟩; cases q) ?_))
          have hb : Go.binOp .neq t (.pointer p) (.pointer q) = (do pure (.bool (!(← Op.equal t (.pointer p) (.pointer q))))) := by
            cases p <;> cases q <;> rfl
          rw [hb]
          exact hw_bind' (hw_eqPtr hu (by omega) x)
      · exact x.elim
    | _ => exact x.elim
  | call c =>
    obtain ⟨callee, args, argTypes⟩ := c
    simp only [] at x
    cases callee with
    | value f => exact x.elim
    | invoke r n => exact x.elim
    | builtin b =>
      cases b <;> simp only [] at x <;> try exact x.elim
      split at x
      · rename_i t m h1 h2
        split at x
        · rename_i kt et hu
          show hw P (do pure (Next.value (← Builtin.len_ argTypes type (args.map ρ)))) h (nextK P K)
          have e1 : argTypes = #[t] := Array.ext' (by simpa using h1)
          have e2 : args.map ρ = #[.map m] := Array.ext' (by simpa using h2)
          rw [e1, e2]
          refine hw_value _ ?_
          unfold Builtin.len_
          show hw P (underlying t >>= _) h K
          refine hw_bind' (hw_underlying hu ?_)
          cases m with
          | none => exact x
          | some r =>
            obtain ⟨es, cc, hm, x⟩ := x
            refine hw_bind' (hw_getObj hm (by intro _ _ _ q; cases q) ?_)
            exact x
        · exact x.elim
      · exact x.elim
  | _ => exact x.elim

theorem eff_sound {P : Program} {o : Oper} {ρ : Operand → Value} {h : Heap} {K : Value → Heap → Prop} (x : effV P o ρ h K) : opH P o ρ h K := by
  unfold effV at x
  obtain ⟨dst, op, type, pos, after, guard⟩ := o
  cases op with
  | store t a v =>
    simp only [] at x
    split at x
    · rename_i ad ha
      split at x
      · rename_i i hi
        show hw P (do Instr.storeAt t (ρ a) (ρ v); pure Next.skip) h (nextK P K)
        rw [ha]
        exact hw_skip _ (hw_storeVar hi x)
      · exact x.elim
    · exact x.elim
  | mapUpdate t m k v =>
    simp only [] at x
    split at x
    · rename_i kt et r hu hm
      show hw P (do Instr.mapUpdate t (ρ m) (ρ k) (ρ v); pure Next.skip) h (nextK P K)
      rw [hm]
      exact hw_skip _ (hw_mput hu x)
    · exact x.elim
  | insert t m k v =>
    simp only [] at x
    split at x
    · rename_i kt et r hu hm
      show hw P (do Instr.mapUpdate t (ρ m) (ρ k) (ρ v); pure Next.skip) h (nextK P K)
      rw [hm]
      exact hw_skip _ (hw_mput hu x)
    · exact x.elim
  | call c =>
    obtain ⟨callee, args, argTypes⟩ := c
    have goE : ∀ (g : FuncId) (first cap : Array Value) (f : Operand), ρ f = .func (.func g) first cap → (CallsE P g (first ++ args.map ρ ++ cap) h fun v h' => dR (skind P type) v fun v => K v h') →
        opH P ⟨dst, .call ⟨.value f, args, argTypes⟩, type, pos, after, guard⟩ ρ h K := by
      intro g first cap f hf q
      show hw P (resolve ρ ⟨.value f, args, argTypes⟩ type >>= fun d => invoke d.target d.args) h (nextK P K)
      refine hw_bind' ?_
      unfold resolve
      simp only [hf]
      exact hw_callFunc q.1 (q.2.mono fun v h' y => dR_of y)
    cases callee with
    | value f =>
      simp only [] at x
      unfold CallsV at x
      split at x
      · rename_i g first cap hf
        exact goE g first cap f hf x
      · exact x.elim
    | invoke r n => exact x
    | builtin b =>
      cases b with
      | append =>
        simp only [] at x
        split at x
        · rename_i t t2 bb l cp xb n xc h1 h2
          split at x
          · rename_i e d2 hu hu2
            split at x
            · rename_i i hi
              split at x
              · rename_i z hz
                cases hd : isIntD d2 with
                | true => rw [hd] at x; exact x.elim
                | false =>
                  rw [hd] at x
                  show hw P (do pure (Next.value (← Builtin.append_ argTypes type (args.map ρ)))) h (nextK P K)
                  have e1 : argTypes = #[t, t2] := Array.ext' (by simpa using h1)
                  have e2 : args.map ρ = #[.slice bb l cp, .slice xb n xc] := Array.ext' (by simpa using h2)
                  rw [e1, e2]
                  exact hw_value _ (hw_append hu hi hu2 hd hz x)
              · exact x.elim
            · exact x.elim
          · exact x.elim
        · exact x.elim
      | delete =>
        simp only [] at x
        split at x
        · rename_i t t2 m k h1 h2
          split at x
          · rename_i kt et hu
            show hw P (do pure (Next.value (← Builtin.delete_ argTypes type (args.map ρ)))) h (nextK P K)
            have e1 : argTypes = #[t, t2] := Array.ext' (by simpa using h1)
            have e2 : args.map ρ = #[.map m, k] := Array.ext' (by simpa using h2)
            rw [e1, e2]
            exact hw_value _ (hw_mdel hu x)
          · exact x.elim
        · exact x.elim
      | _ => exact x
  | _ => exact x

theorem opV_sound {P : Program} {o : Oper} {ρ : Operand → Value} {h : Heap} {K : Value → Heap → Prop} (x : opV P o ρ h K) : opH P o ρ h K := by
  unfold opV at x
  split at x
  · exact pure_sound x
  · split at x
    · exact heap_sound x
    · exact eff_sound x

end Go.Rv
