/- A region that draws its order: the run of the model beside the run that asks what it can as early as it can. -/
import Derived.Test.YtlibanaihidlhaaGreatRvDrawSound
namespace Go.Rv
set_option linter.unusedVariables false
set_option linter.unusedSimpArgs false

variable {P : Program} {n : Nat} {ops : Array Oper} {tab : List (List Nat)}

theorem ord_cons {rd hp : Nat → Bool} {m : Nat} {done : List Nat} {i : Nat} {ag : List Nat} {rest : List (Nat × List Nat)} (h : orderOK rd hp tab m done ((i, ag) :: rest) = true) :
    i < m ∧ i ∉ done ∧ (∀ j, ancOf tab j i = true → j ∈ done) ∧ (rd i = true → ag = [] ∧ ∀ e, done.find? (fun j => !rd j) = some e → ancOf tab e i = true) ∧
    (rd i = false → (∀ j ∈ done, hp j = true → ancOf tab j i = true ∨ j ∈ ag) ∧ ∀ j ∈ ag, j ∈ done ∧ hp j = true) ∧ orderOK rd hp tab m (i :: done) rest = true := by
  unfold orderOK at h
  simp only [Bool.and_eq_true, Bool.not_eq_true'] at h
  obtain ⟨⟨⟨⟨h1, h2⟩, h3⟩, h4⟩, h5⟩ := h
  refine ⟨Nat.blt_eq.mp h1, not_mem_of_memB h2, fun j hj => memB_iff.1 (allT h3 j (memB_iff.1 hj)), fun hr => ?_, fun hr => ?_, h5⟩
  · simp only [hr, Bool.and_eq_true] at h4
    refine ⟨List.isEmpty_iff.1 h4.1, fun e he => ?_⟩
    have := h4.2
    simp only [he] at this
    exact this
  · simp only [hr, Bool.and_eq_true] at h4
    refine ⟨fun j hj hh => ?_, fun j hj => ?_⟩
    · have := allT h4.1 j hj
      simp only [hh, Bool.not_true, Bool.false_or, Bool.or_eq_true] at this
      exact this.imp id memB_iff.1
    · have := allT h4.2 j hj
      simp only [Bool.and_eq_true] at this
      exact ⟨memB_iff.1 this.1, this.2⟩

theorem ord_fresh {rd hp : Nat → Bool} {m : Nat} : ∀ {rest : List (Nat × List Nat)} {done : List Nat}, orderOK rd hp tab m done rest = true → ∀ j ∈ rest.map (·.1), j ∉ done
  | [], done, h, j, hj => by cases hj
  | (i, ag) :: rest, done, h, j, hj => by
    obtain ⟨_, h2, _, _, _, h6⟩ := ord_cons h
    rcases List.mem_cons.1 hj with rfl | hj
    · exact h2
    · exact fun e => ord_fresh h6 j hj (List.mem_cons_of_mem _ e)

theorem ord_late {rd hp : Nat → Bool} {m i : Nat} {D : List Nat} (him : i < m) (hri : rd i = true) : ∀ {rest : List (Nat × List Nat)} {done : List Nat}, orderOK rd hp tab m done rest = true → i ∉ done →
    (∃ e, done.find? (fun j => !rd j) = some e ∧ e ∉ D) → (∀ j ∈ rest.map (·.1), j ∉ D) → ∃ e, ancOf tab e i = true ∧ e ∉ D
  | [], done, h, hi, _, _ => by
    unfold orderOK at h
    exact (hi (memB_iff.1 (allT h i (List.mem_range.2 him)))).elim
  | (j, ag) :: rest, done, h, hi, ⟨e, he, heD⟩, hD => by
    obtain ⟨h1, h2, h3, h4, h5, h6⟩ := ord_cons h
    by_cases hij : j = i
    · subst hij
      exact ⟨e, (h4 hri).2 e he, heD⟩
    · refine ord_late him hri h6 (fun hm => (List.mem_cons.1 hm).elim (fun e => hij e.symm) hi) ?_ (fun x hx => hD x (List.mem_cons_of_mem _ hx))
      cases hrj : rd j with
      | true => exact ⟨e, by rw [List.find?_cons_of_neg (by simp [hrj])]; exact he, heD⟩
      | false => exact ⟨j, by rw [List.find?_cons_of_pos (by simp [hrj])], hD j (List.mem_cons_self ..)⟩

theorem put_other {fr : Fr} {d : Option Nat} {v : Value} {t : Nat} (h : ¬ (d = some t ∧ t < n)) : fr.put n d v t = fr t := by
  cases d with
  | none => rfl
  | some d => rw [Fr.put_some, if_neg (by rintro ⟨h1, rfl⟩; exact h ⟨rfl, h1⟩)]

theorem put_at {fr : Fr} {v : Value} {t : Nat} (h : t < n) : fr.put n (some t) v t = v := by
  rw [Fr.put_some, if_pos ⟨h, rfl⟩]

theorem bind_dst {i : Nat} {o : Oper} (h : ops[i]? = some o) {t : Nat} : (ops[i]?).bind (·.dst) = some t ↔ o.dst = some t := by rw [h]; exact Iff.rfl

/-- What a read that the model's run still owes gives. -/
def RP (P : Program) (n : Nat) (ops : Array Oper) (tab : List (List Nat)) (fr0 frS : Fr) (h : Heap) (i : Nat) : Prop := ∃ o, ops[i]? = some o ∧ ∃ (g : Fr) (v : Value),
  (∀ t, Reads ops o t → (W ops n (fun j => ancOf tab j i = true) t → g t = frS t) ∧ (¬ W ops n (fun j => ancOf tab j i = true) t → g t = fr0 t)) ∧
  (∀ d, o.dst = some d → d < n → frS d = v) ∧
  ∀ (h' : Heap) (K : Value → Heap → Prop), (pureB P o = true ∨ h' = h) → K v h' → stv P ops o g h' K

structure Inv (P : Program) (n : Nat) (ops : Array Oper) (tab : List (List Nat)) (fr0 : Fr) (K : Fr → Heap → Prop) (S D : List Nat) (rest : List (Nat × List Nat)) (s : List Nat) (frS fr : Fr) (h : Heap) : Prop where
  sub : ∀ i ∈ D, i ∈ S
  rds : ∀ i ∈ S, i ∉ D → rdOf P ops i = true
  lt : ∀ i ∈ S, i < ops.size
  clS : ∀ i ∈ S, ∀ j, ancOf tab j i = true → j ∈ S
  clD : ∀ i ∈ D, ∀ j, ancOf tab j i = true → j ∈ D
  run : runL P n ops rest frS h K
  ord : orderOK (rdOf P ops) (hpOf P ops) tab ops.size S rest = true
  eff : (rest.map (·.1)).filter (fun i => !rdOf P ops i) = s.filter (fun i => !rdOf P ops i)
  f1 : ∀ t, W ops n (· ∈ D) t → fr t = frS t
  f2 : ∀ t, ¬ W ops n (· ∈ D) t → fr t = fr0 t
  f3 : ∀ t, ¬ W ops n (· ∈ S) t → frS t = fr0 t
  rp : ∀ i ∈ S, i ∉ D → RP P n ops tab fr0 frS h i

theorem noW (hs : Snd P ops tab) {X : List Nat} {i : Nat} {o : Oper} {t : Nat} (ho : ops[i]? = some o) (hi : i ∉ X) (cl : ∀ i ∈ X, ∀ j, ancOf tab j i = true → j ∈ X) (hr : Reads ops o t)
    (hw : ¬ W ops n (fun j => ancOf tab j i = true) t) : ¬ W ops n (· ∈ X) t := by
  rintro ⟨ht, x, hx, hd⟩
  rcases hs.rd i o x t ho hd hr with h | ⟨_, h, _⟩
  · exact hw ⟨ht, x, h, hd⟩
  · exact hi (cl x hx i h)

theorem W_cons {X : List Nat} {i : Nat} {o : Oper} {t : Nat} (ho : ops[i]? = some o) : W ops n (· ∈ i :: X) t ↔ (o.dst = some t ∧ t < n) ∨ W ops n (· ∈ X) t := by
  constructor
  · rintro ⟨ht, x, hx, hd⟩
    rcases List.mem_cons.1 hx with rfl | hx
    · exact .inl ⟨(bind_dst ho).1 hd, ht⟩
    · exact .inr ⟨ht, x, hx, hd⟩
  · rintro (⟨hd, ht⟩ | ⟨ht, x, hx, hd⟩)
    · exact ⟨ht, i, List.mem_cons_self .., (bind_dst ho).2 hd⟩
    · exact ⟨ht, x, List.mem_cons_of_mem _ hx, hd⟩

theorem W_not (hs : Snd P ops tab) {X : List Nat} {i : Nat} {o : Oper} {t : Nat} (ho : ops[i]? = some o) (hi : i ∉ X) (hw : W ops n (· ∈ X) t) : ¬ (o.dst = some t ∧ t < n) := by
  rintro ⟨hd, _⟩
  obtain ⟨_, x, hx, hd'⟩ := hw
  have := hs.one i x t ((bind_dst ho).2 hd) hd'
  subst this
  exact hi hx

/-- A recorded read is still right when another slot is written. -/
theorem RP.put (hs : Snd P ops tab) {fr0 frS : Fr} {h h' : Heap} {S : List Nat} {i j : Nat} {o : Oper} {v : Value} (ho : ops[i]? = some o) (hi : i ∉ S) (hj : j ∈ S) (cl : ∀ i ∈ S, ∀ j, ancOf tab j i = true → j ∈ S)
    (hp : hpOf P ops j = false ∧ rdOf P ops j = true ∨ h' = h) (x : RP P n ops tab fr0 frS h j) : RP P n ops tab fr0 (frS.put n o.dst v) h' j := by
  obtain ⟨p, hp', g, u, h1, h2, h3⟩ := x
  refine ⟨p, hp', g, u, fun t ht => ⟨fun hw => ?_, (h1 t ht).2⟩, fun d hd hdn => ?_, fun h'' K he hk => h3 h'' K ?_ hk⟩
  · rw [put_other, (h1 t ht).1 hw]
    rintro ⟨hd, _⟩
    obtain ⟨_, y, hy, hd'⟩ := hw
    have := hs.one i y t ((bind_dst ho).2 hd) hd'
    subst this
    exact hi (cl j hj _ hy)
  · rw [put_other, h2 d hd hdn]
    rintro ⟨hd', _⟩
    have := hs.one i j d ((bind_dst ho).2 hd') ((bind_dst hp').2 hd)
    subst this
    exact hi hj
  · rcases he with he | he
    · exact .inl he
    · rcases hp with ⟨hp1, hp2⟩ | hp
      · refine .inl ?_
        unfold hpOf at hp1
        unfold rdOf readB at hp2
        rw [hp'] at hp1 hp2
        simp only [] at hp1 hp2
        cases hq : pureB P p with
        | true => rfl
        | false => rw [hq] at hp1 hp2; simp only [Bool.not_false, Bool.true_and, Bool.false_or] at hp1 hp2; rw [hp1] at hp2; cases hp2
      · exact .inr (he.trans hp)

theorem getOp {i : Nat} (h : i < ops.size) : ∃ o, ops[i]? = some o := ⟨_, Array.getElem?_eq_getElem h⟩

theorem rdOf_read {i : Nat} {o : Oper} (ho : ops[i]? = some o) (h : rdOf P ops i = true) : readB P o = true := by
  unfold rdOf at h; rw [ho] at h; exact h

/-- The read that is next is asked. -/
theorem Inv.flush (hs : Snd P ops tab) {fr0 : Fr} {K : Fr → Heap → Prop} {S D : List Nat} {j : Nat} {ag : List Nat} {rest : List (Nat × List Nat)} {s : List Nat} {frS fr : Fr} {h : Heap}
    (I : Inv P n ops tab fr0 K S D ((j, ag) :: rest) s frS fr h) (hj : rdOf P ops j = true) : ∃ frS', Inv P n ops tab fr0 K (j :: S) D rest s frS' fr h := by
  obtain ⟨h1, h2, h3, h4, h5, h6⟩ := ord_cons I.ord
  obtain ⟨o, ho⟩ := getOp h1
  obtain ⟨rfl, _⟩ := h4 hj
  have x := I.run
  unfold runL at x
  simp only [ho] at x
  have y := stp_stv.1 x
  obtain ⟨v, hv, hk⟩ := stv_read (rdOf_read ho hj) y
  have hjD : j ∉ D := fun e => h2 (I.sub j e)
  refine ⟨frS.put n o.dst v, ⟨fun i hi => List.mem_cons_of_mem _ (I.sub i hi), fun i hi hd => ?_, fun i hi => ?_, fun i hi x hx => ?_, I.clD, hv, h6, ?_, fun t ht => ?_, I.f2, fun t ht => ?_, fun i hi hd => ?_⟩⟩
  · rcases List.mem_cons.1 hi with rfl | hi
    · exact hj
    · exact I.rds i hi hd
  · rcases List.mem_cons.1 hi with rfl | hi
    · exact h1
    · exact I.lt i hi
  · rcases List.mem_cons.1 hi with rfl | hi
    · exact List.mem_cons_of_mem _ (h3 x hx)
    · exact List.mem_cons_of_mem _ (I.clS i hi x hx)
  · have := I.eff
    simp only [List.map_cons] at this
    rw [List.filter_cons_of_neg (by simp [hj])] at this
    exact this
  · rw [put_other (W_not hs ho hjD ht), I.f1 t ht]
  · rw [W_cons ho] at ht
    rw [put_other (fun e => ht (.inl e)), I.f3 t (fun e => ht (.inr e))]
  · rcases List.mem_cons.1 hi with rfl | hi
    · refine ⟨o, ho, frS, v, fun t ht => ⟨fun hw => ?_, fun hw => I.f3 t (noW hs ho h2 I.clS ht hw)⟩, fun d hd hdn => ?_, hk⟩
      · have hw' : W ops n (· ∈ S) t := by
          obtain ⟨ht, x, hx, hd⟩ := hw
          exact ⟨ht, x, h3 x hx, hd⟩
        rw [put_other (W_not hs ho h2 hw')]
      · rw [hd, put_at hdn]
    · exact (I.rp i hi hd).put hs ho h2 hi I.clS (.inr rfl)

/-- Reads are asked until this one is. -/
theorem Inv.flushTo (hs : Snd P ops tab) {fr0 : Fr} {K : Fr → Heap → Prop} {D : List Nat} {s : List Nat} {fr : Fr} {h : Heap} {i : Nat} (hi : i < ops.size) (hr : rdOf P ops i = true) (hrd : ∀ j, ancOf tab j i = true → j ∈ D) :
    ∀ (rest : List (Nat × List Nat)) (S : List Nat) (frS : Fr), Inv P n ops tab fr0 K S D rest s frS fr h → ∃ S' rest' frS', Inv P n ops tab fr0 K S' D rest' s frS' fr h ∧ i ∈ S'
  | [], S, frS, I => ⟨S, [], frS, I, by
      have := I.ord
      unfold orderOK at this
      exact memB_iff.1 (allT this i (List.mem_range.2 hi))⟩
  | (j, ag) :: rest, S, frS, I => by
    by_cases hiS : i ∈ S
    · exact ⟨S, _, frS, I, hiS⟩
    · cases hj : rdOf P ops j with
      | true =>
        obtain ⟨frS', I'⟩ := I.flush hs hj
        exact Inv.flushTo hs hi hr hrd rest _ _ I'
      | false =>
        exfalso
        obtain ⟨h1, h2, h3, h4, h5, h6⟩ := ord_cons I.ord
        have hjD : j ∉ D := fun e => h2 (I.sub j e)
        obtain ⟨e, he, heD⟩ := ord_late (D := D) hi hr h6 (fun hm => (List.mem_cons.1 hm).elim (fun e => by rw [e, hj] at hr; cases hr) hiS) ⟨j, by rw [List.find?_cons_of_pos (by simp [hj])], hjD⟩
          (fun x hx hd => ord_fresh h6 x hx (List.mem_cons_of_mem _ (I.sub x hd)))
        exact heD (hrd e he)

/-- Reads are asked until the next change. -/
theorem Inv.flushEff (hs : Snd P ops tab) {fr0 : Fr} {K : Fr → Heap → Prop} {D : List Nat} {s : List Nat} {fr : Fr} {h : Heap} {i : Nat} (hr : rdOf P ops i = false) :
    ∀ (rest : List (Nat × List Nat)) (S : List Nat) (frS : Fr), Inv P n ops tab fr0 K S D rest (i :: s) frS fr h → ∃ S' ag rest' frS', Inv P n ops tab fr0 K S' D ((i, ag) :: rest') (i :: s) frS' fr h
  | [], S, frS, I => by
    have := I.eff
    rw [List.filter_cons_of_pos (by simp [hr])] at this
    cases this
  | (j, ag) :: rest, S, frS, I => by
    cases hj : rdOf P ops j with
    | true =>
      obtain ⟨frS', I'⟩ := I.flush hs hj
      exact Inv.flushEff hs hr rest _ _ I'
    | false =>
      have := I.eff
      simp only [List.map_cons] at this
      rw [List.filter_cons_of_pos (by simp [hj]), List.filter_cons_of_pos (by simp [hr])] at this
      injection this with h1 h2
      subst h1
      exact ⟨S, ag, rest, frS, I⟩

/-- Reads are asked until none is left. -/
theorem Inv.flushAll (hs : Snd P ops tab) {fr0 : Fr} {K : Fr → Heap → Prop} {D : List Nat} {fr : Fr} {h : Heap} :
    ∀ (rest : List (Nat × List Nat)) (S : List Nat) (frS : Fr), Inv P n ops tab fr0 K S D rest [] frS fr h → ∃ S' frS', Inv P n ops tab fr0 K S' D [] [] frS' fr h
  | [], S, frS, I => ⟨S, frS, I⟩
  | (j, ag) :: rest, S, frS, I => by
    cases hj : rdOf P ops j with
    | true =>
      obtain ⟨frS', I'⟩ := I.flush hs hj
      exact Inv.flushAll hs rest _ _ I'
    | false =>
      have := I.eff
      simp only [List.map_cons] at this
      rw [List.filter_cons_of_pos (by simp [hj])] at this
      cases this

/-- What is asked again, and what comes then. -/
theorem rev_all {fr : Fr} {h : Heap} {A : Prop} : ∀ (js : List Nat), (∀ j ∈ js, rdOf P ops j = true) → runL.revL P n ops js fr h A → A ∧ ∀ j ∈ js, ∃ o d, ops[j]? = some o ∧ o.dst = some d ∧ ∃ v, (d < n → fr d = v) ∧
      ∀ (h' : Heap) (K' : Value → Heap → Prop), (pureB P o = true ∨ h' = h) → K' v h' → stv P ops o fr h' K'
  | [], hr, x => ⟨x, fun j hj => by cases hj⟩
  | j :: js, hr, x => by
    unfold runL.revL at x
    split at x
    · rename_i d o hd ho
      have hod : o.dst = some d := (bind_dst ho).1 hd
      obtain ⟨v, hv, hk⟩ := stv_read (rdOf_read ho (hr j (List.mem_cons_self ..))) (stp_stv.1 x)
      obtain ⟨hv1, _, hv2⟩ := hv
      obtain ⟨ha, hj⟩ := rev_all js (fun j hj => hr j (List.mem_cons_of_mem _ hj)) hv2
      refine ⟨ha, fun y hy => ?_⟩
      rcases List.mem_cons.1 hy with rfl | hy
      · refine ⟨o, d, ho, hod, v, fun hdn => ?_, hk⟩
        rw [hod, put_at hdn] at hv1
        exact hv1.symm
      · exact hj y hy
    · exact x.elim

/-- The model's run, operation by operation. -/
theorem draw_go (hs : Snd P ops tab) {fr0 : Fr} {Q : Exit → Fr → Heap → Prop} {w0 : World} : ∀ (s S D : List Nat) (rest : List (Nat × List Nat)) (frS fr : Fr) (a : Act) (w : World), Lin ops D s →
    Inv P n ops tab fr0 (Q .normal) S D rest s frS fr w.heap → Fits n fr a → Kin w0 w → wpOps P ops (QS n w0 Q) s a w
  | [], S, D, rest, frS, fr, a, w, hl, I, f, kin => by
    obtain ⟨S', frS', I'⟩ := I.flushAll hs
    have hx : Q .normal frS' w.heap := I'.run
    have : fr = frS' := by
      funext t
      by_cases hw : W ops n (· ∈ D) t
      · exact I'.f1 t hw
      · rw [I'.f2 t hw]
        refine (I'.f3 t fun hw' => hw ?_).symm
        obtain ⟨ht, x, hx, hd⟩ := hw'
        exact ⟨ht, x, hl x (I'.lt x hx), hd⟩
    subst this
    exact ⟨fr, f, hx, kin⟩
  | i :: s, S, D, rest, frS, fr, a, w, hl, I, f, kin => by
    obtain ⟨hi, hiD, hpre, hl'⟩ := hl
    obtain ⟨o, ho⟩ := getOp hi
    have hready : ∀ j, ancOf tab j i = true → j ∈ D := by
      intro j hj
      rcases hs.cl i j hi hj with h | ⟨m, hm, h⟩
      · exact hpre j h
      · exact I.clD m (hpre m hm) j h
    have step : ∀ (K : Fr → Heap → Prop), stp P n ops o fr w.heap K → (∀ fr' a' w', Fits n fr' a' → K fr' w'.heap → Kin w w' → wpOps P ops (QS n w0 Q) s a' w') → wpOps P ops (QS n w0 Q) (i :: s) a w := by
      intro K x hn
      unfold wpOps
      simp only [ho]
      rcases stp_sound (Q := QS n w0 Q) f x hn with ⟨h1, h2⟩ | ⟨h1, h2⟩
      · rw [if_pos h1]; exact .inl h2
      · rw [if_neg (by simp [h1])]; exact h2
    cases hr : rdOf P ops i with
    | true =>
      obtain ⟨S1, rest1, frS1, I1, hiS⟩ := I.flushTo hs hi hr hready
      obtain ⟨o', ho', g, v, hg, hv, hk⟩ := I1.rp i hiS hiD
      rw [ho] at ho'
      cases ho'
      have x : stp P n ops o fr w.heap fun fr' h' => fr' = fr.put n o.dst v ∧ h' = w.heap := by
        refine stp_stv.2 (stv_congr (fr := g) (hs.sel i o ho) (fun t ht => ?_) (hk w.heap _ (.inr rfl) ⟨rfl, rfl⟩))
        by_cases hw : W ops n (fun j => ancOf tab j i = true) t
        · rw [(hg t ht).1 hw]
          refine (I1.f1 t ?_).symm
          obtain ⟨h1, y, hy, hd⟩ := hw
          exact ⟨h1, y, hready y hy, hd⟩
        · rw [(hg t ht).2 hw]
          exact (I1.f2 t (noW hs ho hiD I1.clD ht hw)).symm
      refine step _ x ?_
      rintro fr' a' w' f' ⟨rfl, hh⟩ kin'
      refine draw_go (fr0 := fr0) hs s S1 (i :: D) rest1 frS1 _ a' w' hl' ?_ f' (kin.trans kin')
      rw [hh]
      refine ⟨fun j hj => ?_, fun j hj hd => I1.rds j hj fun e => hd (List.mem_cons_of_mem _ e), I1.lt, I1.clS, fun j hj x hx => ?_, I1.run, I1.ord, ?_, fun t ht => ?_, fun t ht => ?_, I1.f3, fun j hj hd => I1.rp j hj fun e => hd (List.mem_cons_of_mem _ e)⟩
      · rcases List.mem_cons.1 hj with rfl | hj
        · exact hiS
        · exact I1.sub j hj
      · rcases List.mem_cons.1 hj with rfl | hj
        · exact List.mem_cons_of_mem _ (hready x hx)
        · exact List.mem_cons_of_mem _ (I1.clD j hj x hx)
      · rw [I1.eff, List.filter_cons_of_neg (by simp [hr])]
      · by_cases hd : o.dst = some t ∧ t < n
        · rw [hd.1, put_at hd.2, hv t hd.1 hd.2]
        · rw [put_other hd]
          exact I1.f1 t (((W_cons ho).1 ht).resolve_left hd)
      · rw [W_cons ho] at ht
        rw [put_other (fun e => ht (.inl e)), I1.f2 t (fun e => ht (.inr e))]
    | false =>
      obtain ⟨S1, ag, rest1, frS1, I1⟩ := I.flushEff hs hr
      obtain ⟨h1, h2, h3, h4, h5, h6⟩ := ord_cons I1.ord
      obtain ⟨h5a, h5b⟩ := h5 hr
      have x0 := I1.run
      unfold runL at x0
      simp only [ho] at x0
      have x : stp P n ops o fr w.heap fun fr' h' => ∃ v, fr' = fr.put n o.dst v ∧ runL.revL P n ops ag (frS1.put n o.dst v) h' (runL P n ops rest1 (frS1.put n o.dst v) h' (Q .normal)) := by
        refine stp_stv.2 (stv_mono (fun v h' y => ⟨v, rfl, y⟩) (stv_congr (fr := frS1) (hs.sel i o ho) (fun t ht => ?_) (stp_stv.1 x0)))
        by_cases hw : W ops n (fun j => ancOf tab j i = true) t
        · refine (I1.f1 t ?_).symm
          obtain ⟨h1, y, hy, hd⟩ := hw
          exact ⟨h1, y, hready y hy, hd⟩
        · rw [I1.f3 t (noW hs ho h2 I1.clS ht hw), I1.f2 t (noW hs ho hiD I1.clD ht hw)]
      refine step _ x ?_
      rintro fr' a' w' f' ⟨v, rfl, hv⟩ kin'
      have hagr : ∀ j ∈ ag, rdOf P ops j = true := by
        intro j hj
        have hh := (h5b j hj).2
        unfold hpOf at hh
        unfold rdOf readB
        cases hq : ops[j]? with
        | none => rw [hq] at hh; cases hh
        | some p =>
          rw [hq] at hh
          simp only [Bool.and_eq_true] at hh ⊢
          rw [hh.2]; simp
      obtain ⟨hrun, hag⟩ := rev_all ag hagr hv
      refine draw_go (fr0 := fr0) hs s (i :: S1) (i :: D) rest1 (frS1.put n o.dst v) _ a' w' hl' ?_ f' (kin.trans kin')
      refine ⟨fun j hj => ?_, fun j hj hd => ?_, fun j hj => ?_, fun j hj x hx => ?_, fun j hj x hx => ?_, hrun, h6, ?_, fun t ht => ?_, fun t ht => ?_, fun t ht => ?_, fun j hj hd => ?_⟩
      · rcases List.mem_cons.1 hj with rfl | hj
        · exact List.mem_cons_self ..
        · exact List.mem_cons_of_mem _ (I1.sub j hj)
      · rcases List.mem_cons.1 hj with rfl | hj
        · exact (hd (List.mem_cons_self ..)).elim
        · exact I1.rds j hj fun e => hd (List.mem_cons_of_mem _ e)
      · rcases List.mem_cons.1 hj with rfl | hj
        · exact h1
        · exact I1.lt j hj
      · rcases List.mem_cons.1 hj with rfl | hj
        · exact List.mem_cons_of_mem _ (h3 x hx)
        · exact List.mem_cons_of_mem _ (I1.clS j hj x hx)
      · rcases List.mem_cons.1 hj with rfl | hj
        · exact List.mem_cons_of_mem _ (hready x hx)
        · exact List.mem_cons_of_mem _ (I1.clD j hj x hx)
      · have := I1.eff
        simp only [List.map_cons] at this
        rw [List.filter_cons_of_pos (by simp [hr]), List.filter_cons_of_pos (by simp [hr])] at this
        injection this
      · by_cases hd : o.dst = some t ∧ t < n
        · rw [hd.1, put_at hd.2, put_at hd.2]
        · rw [put_other hd, put_other hd]
          exact I1.f1 t (((W_cons ho).1 ht).resolve_left hd)
      · rw [W_cons ho] at ht
        rw [put_other (fun e => ht (.inl e)), I1.f2 t (fun e => ht (.inr e))]
      · rw [W_cons ho] at ht
        rw [put_other (fun e => ht (.inl e)), I1.f3 t (fun e => ht (.inr e))]
      · have hjS : j ∈ S1 := (List.mem_cons.1 hj).resolve_left fun e => hd (e ▸ List.mem_cons_self ..)
        have hjD : j ∉ D := fun e => hd (List.mem_cons_of_mem _ e)
        cases hh : hpOf P ops j with
        | false => exact (I1.rp j hjS hjD).put hs ho h2 hjS I1.clS (.inl ⟨hh, I1.rds j hjS hjD⟩)
        | true =>
          rcases h5a j hjS hh with h | h
          · exact (hjD (hready j h)).elim
          · obtain ⟨p, d, hp, hpd, u, hu, hk⟩ := hag j h
            refine ⟨p, hp, _, u, fun t ht => ⟨fun _ => rfl, fun hw => ?_⟩, fun d' hd' hdn => ?_, hk⟩
            · have hnw : ¬ W ops n (· ∈ i :: S1) t := by
                rintro ⟨h1, y, hy, hyd⟩
                rcases hs.rd j p y t hp hyd ht with h | ⟨_, _, h⟩
                · exact hw ⟨h1, y, h, hyd⟩
                · rw [hh] at h; cases h
              rw [W_cons ho] at hnw
              rw [put_other (fun e => hnw (.inl e)), I1.f3 t (fun e => hnw (.inr e))]
            · rw [hpd] at hd'
              cases hd'
              exact hu hdn

/-! ### The orders are all orders -/

theorem effOrders_mem {anc : Nat → Nat → Bool} : ∀ (σ : List Nat) (f : Nat) (es : List Nat), σ.Nodup → (∀ x, x ∈ σ ↔ x ∈ es) → es.length ≤ f → σ.Pairwise (fun a b => anc b a = false) → (∀ x ∈ σ, anc x x = false) → σ ∈ effOrders anc f es
  | [], f, es, _, hm, _, _, _ => by
    have : es = [] := List.eq_nil_iff_forall_not_mem.2 fun x hx => by have := (hm x).2 hx; cases this
    subst this
    cases f <;> simp [effOrders]
  | e :: σ, 0, es, _, hm, hf, _, _ => by
    have : es = [] := List.length_eq_zero_iff.1 (Nat.le_zero.1 hf)
    subst this
    have := (hm e).1 (List.mem_cons_self ..)
    cases this
  | e :: σ, f + 1, es, hn, hm, hf, hp, hq => by
    have he : e ∈ es := (hm e).1 (List.mem_cons_self ..)
    have hn' := List.nodup_cons.1 hn
    have hp' := List.pairwise_cons.1 hp
    cases es with
    | nil => cases he
    | cons z zs =>
      simp only [effOrders]
      refine List.mem_flatMap.2 ⟨e, List.mem_filter.2 ⟨he, ?_⟩, List.mem_map.2 ⟨σ, ?_, rfl⟩⟩
      · rw [List.all_eq_true]
        intro x hx
        rcases List.mem_cons.1 ((hm x).2 hx) with rfl | hx'
        · simp [hq x (List.mem_cons_self ..)]
        · simp [hp'.1 x hx']
      · refine effOrders_mem σ f _ hn'.2 (fun x => ?_) ?_ hp'.2 (fun x hx => hq x (List.mem_cons_of_mem _ hx))
        · rw [List.mem_filter]
          constructor
          · intro hx
            refine ⟨(hm x).1 (List.mem_cons_of_mem _ hx), ?_⟩
            have : x ≠ e := fun h => hn'.1 (h ▸ hx)
            cases hb : Nat.beq x e with
            | false => rfl
            | true => exact (this (Nat.eq_of_beq_eq_true hb)).elim
          · rintro ⟨hx, hb⟩
            rcases List.mem_cons.1 ((hm x).2 hx) with rfl | hx'
            · simp at hb
            · exact hx'
        · have : (List.filter (fun x => !Nat.beq x e) (z :: zs)).length < (z :: zs).length := by
            rw [List.length_filter_lt_length_iff_exists]
            exact ⟨e, he, by simp⟩
          omega

theorem lin_facts (hs : Snd P ops tab) : ∀ (s D : List Nat), Lin ops D s → (∀ i ∈ D, ∀ j, ancOf tab j i = true → j ∈ D) →
    s.Nodup ∧ (∀ x ∈ s, x < ops.size ∧ x ∉ D) ∧ (∀ x, x < ops.size → x ∈ D ∨ x ∈ s) ∧ s.Pairwise (fun a b => ancOf tab b a = false) ∧ ∀ x ∈ s, ancOf tab x x = false
  | [], D, h, _ => ⟨List.nodup_nil, fun x hx => (by cases hx), fun x hx => .inl (h x hx), List.Pairwise.nil, fun x hx => (by cases hx)⟩
  | i :: s, D, h, cl => by
    obtain ⟨h1, h2, h3, h4⟩ := h
    have hready : ∀ j, ancOf tab j i = true → j ∈ D := by
      intro j hj
      rcases hs.cl i j h1 hj with h | ⟨m, hm, h⟩
      · exact h3 j h
      · exact cl m (h3 m hm) j h
    obtain ⟨a1, a2, a3, a4, a5⟩ := lin_facts hs s (i :: D) h4 (fun x hx j hj => by
      rcases List.mem_cons.1 hx with rfl | hx
      · exact List.mem_cons_of_mem _ (hready j hj)
      · exact List.mem_cons_of_mem _ (cl x hx j hj))
    have nf : ∀ x, x ∉ D → ancOf tab x i = false := by
      intro x hx
      cases hb : ancOf tab x i with
      | false => rfl
      | true => exact (hx (hready x hb)).elim
    refine ⟨List.nodup_cons.2 ⟨fun e => (a2 i e).2 (List.mem_cons_self ..), a1⟩, fun x hx => ?_, fun x hx => ?_, List.pairwise_cons.2 ⟨fun x hx => nf x fun e => (a2 x hx).2 (List.mem_cons_of_mem _ e), a4⟩, fun x hx => ?_⟩
    · rcases List.mem_cons.1 hx with rfl | hx
      · exact ⟨h1, h2⟩
      · exact ⟨(a2 x hx).1, fun e => (a2 x hx).2 (List.mem_cons_of_mem _ e)⟩
    · rcases a3 x hx with h | h
      · rcases List.mem_cons.1 h with rfl | h
        · exact .inr (List.mem_cons_self ..)
        · exact .inl h
      · exact .inr (List.mem_cons_of_mem _ h)
    · rcases List.mem_cons.1 hx with rfl | hx
      · exact nf x h2
      · exact a5 x hx

theorem eqLN_eq : ∀ {a b : List Nat}, eqLN a b = true → a = b
  | [], [], _ => rfl
  | a :: as, b :: bs, h => by
    unfold eqLN at h
    rw [Bool.and_eq_true] at h
    rw [Nat.eq_of_beq_eq_true h.1, eqLN_eq h.2]
  | [], _ :: _, h => by cases h
  | _ :: _, [], h => by cases h

theorem draw_sound : DrawSound P n ops tab := by
  intro t fr a w0 w Q f kin x
  unfold drawW at x
  cases hf : P.follows .mixedOrders with
  | false => simp only [hf] at x
  | true =>
    simp only [hf] at x
    cases hd : drawOK P ops tab with
    | none => simp only [hd] at x
    | some l =>
      simp only [hd] at x
      unfold drawOK at hd
      cases hsb : soundB ops (hpOf P ops) tab with
      | false => simp only [hsb] at hd; cases hd
      | true =>
        simp only [hsb] at hd
        split at hd
        · cases hd
        · rename_i hall
          cases hd
          have hs := snd_of hsb
          have hlin := lin_schedule hs.pre t
          obtain ⟨a1, a2, a3, a4, a5⟩ := lin_facts hs _ _ hlin (fun i hi => by cases hi)
          have hσ : (Region.schedule true ops t).filter (fun i => !rdOf P ops i) ∈ effOrders (ancOf tab) ops.size ((List.range ops.size).filter fun i => !rdOf P ops i) := by
            refine effOrders_mem _ _ _ (a1.filter _) (fun x => ?_) ?_ (a4.filter _) (fun x hx => a5 x (List.mem_filter.1 hx).1)
            · rw [List.mem_filter, List.mem_filter, List.mem_range]
              constructor
              · rintro ⟨h1, h2⟩; exact ⟨(a2 x h1).1, h2⟩
              · rintro ⟨h1, h2⟩; exact ⟨(a3 x h1).resolve_left (by simp), h2⟩
            · exact Nat.le_trans (List.length_filter_le _ _) (by simp)
          have hx := allP_mem x _ hσ
          have hok := allT hall _ hσ
          rw [Bool.and_eq_true] at hok
          exact draw_go (fr0 := fr) hs _ [] [] _ fr fr a w hlin ⟨fun i hi => (by cases hi), fun i hi => (by cases hi), fun i hi => (by cases hi), fun i hi => (by cases hi), fun i hi => (by cases hi), hx, hok.1, eqLN_eq hok.2,
            fun t ht => rfl, fun t ht => rfl, fun t ht => rfl, fun i hi => (by cases hi)⟩ f kin

end Go.Rv
