/- Code over heaps is sound; a function's contract out of its body's typed reading. -/
import Derived.Test.YtlibanaihidlhaaGreatRvCw
import Derived.Test.YtlibanaihidlhaaGreatRvDrawEnd
namespace Go.Rv
set_option linter.unusedVariables false
set_option linter.unusedSimpArgs false

theorem cw_sound {P : Program} {n : Nat} {ann : Ann} (c : Code) : ∀ (i : Nat) (Q : ExQ) (fr : Fr) (a : Act) (w0 w : World), Fits n fr a → Kin w0 w → cw P n ann i c Q fr w.heap → c.wp P (QS n w0 Q) a w := by
  induction c with
  | skip => exact fun i Q fr a w0 w f k x => wp_skip ⟨fr, f, x, k⟩
  | label l => exact fun i Q fr a w0 w f k x => wp_label ⟨fr, f, x, k⟩
  | region id ops draw =>
    intro i Q fr a w0 w f k x
    cases draw with
    | false => exact wp_region_list (cwOps_sound _ _ _ _ f k x)
    | true =>
      refine wp_region_draw fun t => ?_
      exact draw_sound t fr a w0 { w with drawn := w.drawn + 1 } Q f ⟨k.os, k.output, k.tape, Nat.le_trans k.drawn (Nat.le_succ _)⟩ x
  | seq x y ihx ihy =>
    intro i Q fr a w0 w f k q
    refine wp_seq ?_
    unfold cw at q
    cases hl : Ann.at_ ann i with
    | none =>
      simp only [hl] at q
      refine wp_mono (ihx _ _ _ _ w0 _ f k q) ?_
      rintro e a1 w1 ⟨fr1, f1, q1, k1⟩
      cases e with
      | normal => exact ihy _ _ _ _ _ _ f1 k1 q1
      | _ => exact ⟨fr1, f1, q1, k1⟩
    | some l =>
      simp only [hl] at q
      obtain ⟨M, hA, hR⟩ := q
      refine wp_mono (ihx _ _ _ _ w0 _ f k (cw_writes _ _ _ _ _ hA)) ?_
      rintro e a1 w1 ⟨fr1, f1, ⟨q1, hw⟩, k1⟩
      cases e with
      | normal =>
        unfold thenQ decK at q1
        simp only [] at q1
        cases hd : decSt l fr1 with
        | none => simp only [hd] at q1
        | some s =>
          simp only [hd] at q1
          have q2 := hR fr1 s _ q1
          simp only [] at q2
          rw [cutFr_self hd hw] at q2
          exact ihy _ _ _ _ _ _ f1 k1 q2
      | _ => exact ⟨fr1, f1, q1, k1⟩
  | cond c x y ihx ihy =>
    intro i Q fr a w0 w f k q
    unfold cw at q
    cases hc : fr.ev c <;> simp only [hc] at q
    rename_i b
    have hc' : a.eval c = .bool b := by rw [f.ev, hc]
    cases b with
    | true => exact wp_cond_true hc' (ihx _ _ _ _ _ _ f k q)
    | false => exact wp_cond_false hc' (ihy _ _ _ _ _ _ f k q)
  | block id b ih =>
    intro i Q fr a w0 w f k q
    refine wp_block (wp_mono (ih _ _ _ _ w0 _ f k q) ?_)
    rintro e a1 w1 ⟨fr1, f1, q1, k1⟩
    cases e with
    | exit j =>
      unfold blockQ at q1
      unfold Exit.inBlock
      cases hj : Nat.beq j id with
      | true =>
        have : j = id := Nat.eq_of_beq_eq_true hj
        simp only [hj] at q1
        simp only [this, if_true]
        exact ⟨fr1, f1, q1, k1⟩
      | false =>
        have : j ≠ id := by intro e; subst e; simp at hj
        simp only [hj] at q1
        simp only [this, if_false]
        exact ⟨fr1, f1, q1, k1⟩
    | _ => exact ⟨fr1, f1, q1, k1⟩
  | loop b ih =>
    intro i Q fr a w0 w f k q
    unfold cw at q
    cases hl : Ann.at_ ann i with
    | none => simp only [hl] at q
    | some l =>
      simp only [hl] at q
      cases hs : subB (l.map (·.1)) (writes b) <;> simp only [hs] at q
      unfold decK at q
      cases hd : decSt l fr with
      | none => simp only [hd] at q
      | some s0 =>
        simp only [hd] at q
        obtain ⟨I, μ, h0, h1⟩ := q
        have key : ∀ {fr' : Fr} {s : St l}, decSt l fr' = some s → (∀ t, t ∉ writes b → fr' t = fr t) → cutFr (writes b) l s fr' fr = fr' := fun h1 h2 => cutFr_self h1 h2
        refine wp_loop (fun a' w' => ∃ fr' s, Fits n fr' a' ∧ Kin w0 w' ∧ decSt l fr' = some s ∧ (∀ t, t ∉ writes b → fr' t = fr t) ∧ I s w'.heap)
          (fun a' w' => match decSt l (fun t => a'.tmps.getD t undef) with | some s => μ s w'.heap | none => 0) ?_ ?_
        · exact ⟨fr, s0, f, k, hd, fun _ _ => rfl, h0⟩
        · rintro a1 w1 ⟨fr1, s1, f1, k1, hd1, hw1, hi1⟩
          have hfr1 : (fun t => a1.tmps.getD t undef) = fr1 := funext f1.at_
          have hb := h1 fr1 s1 w1.heap hi1
          simp only [] at hb
          rw [key hd1 hw1] at hb
          refine wp_mono (ih _ _ _ _ w0 _ f1 k1 (cw_writes _ _ _ _ _ hb)) ?_
          rintro e a2 w2 ⟨fr2, f2, ⟨q2, hw2⟩, k2⟩
          cases e with
          | normal =>
            have q2 : decK l fr2 (fun s' => I s' w2.heap ∧ μ s' w2.heap < μ s1 w1.heap) := q2
            unfold decK at q2
            cases hd2 : decSt l fr2 with
            | none => simp only [hd2] at q2
            | some s2 =>
              simp only [hd2] at q2
              have hfr2 : (fun t => a2.tmps.getD t undef) = fr2 := funext f2.at_
              refine ⟨⟨fr2, s2, f2, k2, hd2, fun t ht => by rw [hw2 t ht, hw1 t ht], q2.1⟩, ?_⟩
              rw [hfr1, hfr2, hd1, hd2]
              exact q2.2
          | _ => exact ⟨fr2, f2, q2, k2⟩
  | exit id => exact fun i Q fr a w0 w f k x => wp_exit ⟨fr, f, x, k⟩
  | ret => exact fun i Q fr a w0 w f k x => wp_ret ⟨fr, f, x, k⟩
  | _ => exact fun i Q fr a w0 w f k x => x.elim

/-- What a function hands back. -/
def resW (P : Program) (h : Heap) (fr : Fr) : List ResultVar → (List Value → Prop) → Prop
  | [], K => K []
  | .tmp t :: r, K => resW P h fr r fun vs => K (fr t :: vs)
  | .cell a t :: r, K => match fr a with
    | .pointer (some ad) => match P.underlying t with
      | some _ => ldT P t h ad fun v => resW P h fr r fun vs => K (v :: vs)
      | none => False
    | _ => False

def packV : List Value → Value
  | [v] => v
  | vs => .tuple vs.toArray

def retQ (P : Program) (rs : List ResultVar) (K : Value → Heap → Prop) : ExQ
  | .normal, fr, h => resW P h fr rs fun vs => K (packV vs) h
  | .ret, fr, h => resW P h fr rs fun vs => K (packV vs) h
  | _, _, _ => False

def argFr (args : Array Value) : Fr := fun t => match args.toList[t]? with
  | some v => v
  | none => undef

theorem run_loadCells {P : Program} {w : World} {a : Addr} {K : List Value → Prop} : ∀ (ks : List CK) (i : Nat) (acc : Array Value), lds w.heap a ks i K →
    ∃ vs, (loadCellsFrom a i ks.length acc).run P w = .ok (acc ++ vs.toArray) w ∧ K vs
  | [], i, acc, x => ⟨[], by simp [loadCellsFrom, pure, Sem.run], x⟩
  | k :: ks, i, acc, x => by
    obtain ⟨v, e, x⟩ := ld1_of x
    obtain ⟨vs, hr, hk⟩ := run_loadCells (P := P) (K := fun vs => K (v :: vs)) ks (i + 1) (acc.push v) x
    refine ⟨v :: vs, ?_, hk⟩
    show (Sem.load .plain (a.add i) fun v => (Sem.pure v).bind fun v => loadCellsFrom a (i + 1) ks.length (acc.push v)).run P w = _
    simp only [Sem.run, cell_heap, e]
    show (loadCellsFrom a (i + 1) ks.length (acc.push v)).run P w = _
    rw [hr]
    congr 1
    apply Array.ext'
    simp

theorem run_underlying {P : Program} {w : World} {t : TypeId} {d : TypeDesc} {β : Type} {f : TypeDesc → Sem β} (e : P.underlying t = some d) : ((underlying t) >>= f).run P w = (f d).run P w := by
  show ((Sem.program fun p => (Sem.pure p).bind fun p => match p.underlying t with | some d => pure d | none => stuck "no such type").bind f).run P w = _
  simp only [Sem.bind, Sem.run, e]
  rfl

theorem run_sizeOf {P : Program} {w : World} {t : TypeId} {i : TypeInfo} {β : Type} {f : Nat → Sem β} (e : P.info? t = some i) : ((Go.sizeOf t) >>= f).run P w = (f i.size).run P w := by
  show ((Sem.program fun p => ((Sem.pure p).bind fun p => match p.info? t with | some i => pure i | none => stuck "no such type").bind fun i => pure i.size).bind f).run P w = _
  simp only [Sem.bind, Sem.run, e]
  rfl

theorem run_isAgg {P : Program} {w : World} {t : TypeId} {d : TypeDesc} {β : Type} {f : Bool → Sem β} (e : P.underlying t = some d) : ((isAgg t) >>= f).run P w = (f (aggB P t)).run P w := by
  show ((Sem.program fun p => ((Sem.pure p).bind fun p => match p.underlying t with | some d => pure d | none => stuck "no such type").bind fun d => match d with | .struct _ | .array _ _ => pure true | _ => pure false).bind f).run P w = _
  unfold aggB
  simp only [Sem.bind, Sem.run, e]
  cases d <;> rfl

theorem run_loadVar {P : Program} {w : World} {t : TypeId} {a : Addr} {d : TypeDesc} {K : Value → Prop} (e : P.underlying t = some d) (x : ldT P t w.heap a K) :
    ∃ v, (loadVar t a).run P w = .ok v w ∧ K v := by
  obtain ⟨i, hi⟩ := und_of e
  unfold ldT at x
  show ∃ v, (isAgg t >>= fun b => if b = true then Go.sizeOf t >>= fun n => loadCells a n >>= fun cs => pure (.agg cs) else load a).run P w = .ok v w ∧ K v
  rw [run_isAgg e]
  cases hg : aggB P t with
  | true =>
    rw [hg] at x
    simp only [if_true] at x ⊢
    split at x
    · rename_i hl
      rw [szOf_eq hi] at hl
      obtain ⟨vs, hr, hk⟩ := run_loadCells (P := P) (kinds P 8 t) 0 #[] x
      refine ⟨_, ?_, hk⟩
      rw [run_sizeOf hi]
      unfold loadCells
      rw [← hl]
      have : ∀ (s : Sem (Array Value)) (cs : Array Value), s.run P w = .ok cs w → (s >>= fun cs => pure (Value.agg cs)).run P w = .ok (.agg cs) w := by
        intro s cs hs
        rw [Sem.run_bind, hs]
        rfl
      rw [this _ _ hr]
      simp
    · exact x.elim
  | false =>
    rw [hg] at x
    simp only [Bool.false_eq_true, if_false] at x ⊢
    obtain ⟨v, e1, x⟩ := ld1_of x
    refine ⟨v, ?_, x⟩
    show (Sem.load .plain a .pure).run P w = _
    simp only [Sem.run, cell_heap, e1]

theorem Sem_run_ok {P : Program} {α β : Type} {s : Sem α} {f : α → Sem β} {w : World} {x : α} (h : s.run P w = .ok x w) : (s >>= f).run P w = (f x).run P w := by
  rw [Sem.run_bind, h]; rfl

def resF (tmps : Array Value) : ResultVar → Sem Value
  | .tmp t => pure (tmps.getD t undef)
  | .cell a t => do loadVar t (← asAddr (tmps.getD a undef))

theorem run_results {P : Program} {w : World} {fr : Fr} {tmps : Array Value} (ht : ∀ t, tmps.getD t undef = fr t) : ∀ (rs : List ResultVar) (K : List Value → Prop), resW P w.heap fr rs K →
    ∃ vs, (rs.mapM (resF tmps)).run P w = .ok vs w ∧ K vs
  | [], K, x => ⟨[], by simp only [List.mapM_nil]; rfl, x⟩
  | .tmp t :: rs, K, x => by
    obtain ⟨vs, hr, hk⟩ := run_results ht rs _ x
    refine ⟨fr t :: vs, ?_, hk⟩
    rw [List.mapM_cons]
    show ((pure (tmps.getD t undef) : Sem Value) >>= _).run P w = _
    rw [Sem_run_ok (x := fr t) (by rw [ht]; rfl), Sem_run_ok hr]
    rfl
  | .cell a t :: rs, K, x => by
    unfold resW at x
    split at x
    · rename_i ad ha
      split at x
      · rename_i d hu
        obtain ⟨v, hv, x⟩ := run_loadVar hu x
        obtain ⟨vs, hr, hk⟩ := run_results ht rs _ x
        refine ⟨v :: vs, ?_, hk⟩
        rw [List.mapM_cons]
        have : (resF tmps (.cell a t)).run P w = .ok v w := by
          unfold resF
          rw [Sem_run_ok (x := ad) (by rw [ht, ha]; rfl)]
          exact hv
        rw [Sem_run_ok this, Sem_run_ok hr]
        rfl
      · exact x.elim
    · exact x.elim

theorem calls_of_cw {P : Program} {f : FuncId} {fn : Func} {c : Code} {args : Array Value} {h : Heap} {K : Value → Heap → Prop} (ann : Ann)
    (hf : P.funcs[f]? = some fn) (hb : fn.body = some c) (he : entersB P f = true) (hn : args.size ≤ fn.ntmps)
    (x : cw P fn.ntmps ann 0 c (retQ P fn.results.toList K) (argFr args) h) : CallsE P f args h K := by
  refine ⟨he, fun w hw => ?_⟩
  subst hw
  refine calls_of_wp hf hb ?_
  have fits : Fits fn.ntmps (argFr args) { tmps := args ++ Array.replicate (fn.ntmps - args.size) undef, defers := [] } := by
    refine ⟨by simp; omega, rfl, fun t => ?_⟩
    unfold argFr
    rw [Array.getD_eq_getD_getElem?]
    by_cases ht : t < args.size
    · rw [Array.getElem?_append_left ht]
      simp [ht]
    · rw [Array.getElem?_append_right (by omega), List.getElem?_eq_none (by simpa using ht), Array.getElem?_replicate]
      split <;> rfl
  refine wp_mono (cw_sound c 0 _ _ _ w w fits (.refl w) x) ?_
  rintro e a w' ⟨fr, f1, q, kin⟩
  have fin : ∀ (q : resW P w'.heap fr fn.results.toList fun vs => K (packV vs) w'.heap), a.defers = [] ∧ ∃ v, (results fn a.tmps).run P w' = .ok v w' ∧ ∃ v', Ending.returned v = .returned v' ∧ K v' w'.heap ∧ Kin w w' := by
    intro q
    refine ⟨f1.defers, ?_⟩
    obtain ⟨vs, hr, hk⟩ := run_results f1.at_ fn.results.toList _ q
    refine ⟨packV vs, ?_, _, rfl, hk, kin⟩
    unfold results
    have e1 : fn.results.mapM (resF a.tmps) = (fn.results.toList.mapM (resF a.tmps) >>= fun l => pure l.toArray) := by
      rw [Array.mapM_eq_mapM_toList]
      rfl
    show ((fn.results.mapM (resF a.tmps)) >>= fun vs => pure (if h : vs.size = 1 then vs[0] else .tuple vs)).run P w' = _
    rw [e1, Sem_run_ok (x := vs.toArray) (by rw [Sem_run_ok hr]; rfl)]
    show Result.ok _ w' = _
    congr 1
    match vs with
    | [] => rfl
    | [v] => rfl
    | v :: u :: r => simp [packV]
  cases e with
  | normal => exact fin q
  | ret => exact fin q
  | _ => exact q.elim

end Go.Rv
