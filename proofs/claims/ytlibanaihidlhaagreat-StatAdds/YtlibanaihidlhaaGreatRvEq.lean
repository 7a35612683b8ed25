/- '==' at structs and arrays of plain cells, over heaps. -/
import Derived.Test.YtlibanaihidlhaaGreatRvStep
namespace Go.Rv
set_option linter.unusedVariables false
set_option linter.unusedSimpArgs false

theorem okL_append : ∀ {A B : List CK} {xs : List Value}, okL (A ++ B) xs = true → ∃ u v, xs = u ++ v ∧ okL A u = true ∧ okL B v = true ∧ u.length = A.length
  | [], B, xs, h => ⟨[], xs, rfl, rfl, h, rfl⟩
  | k :: A, B, [], h => by cases k <;> simp [okL] at h
  | k :: A, B, x :: xs, h => by
    have : okL (A ++ B) xs = true ∧ okL [k] [x] = true := by
      revert h
      cases k <;> cases x <;> simp [okL]
      all_goals (intros; simp_all)
    obtain ⟨u, v, rfl, h1, h2, h3⟩ := okL_append this.1
    refine ⟨x :: u, v, rfl, ?_, h2, by simp [h3]⟩
    have h4 := this.2
    revert h4
    cases k <;> cases x <;> simp [okL, h1]

theorem okL_length : ∀ {A : List CK} {xs : List Value}, okL A xs = true → xs.length = A.length
  | [], [], _ => rfl
  | [], _ :: _, h => by simp [okL] at h
  | k :: A, [], h => by cases k <;> simp [okL] at h
  | k :: A, x :: xs, h => by
    have : okL A xs = true := by revert h; cases k <;> cases x <;> simp [okL]
    simp [okL_length this]

theorem eqL_append : ∀ {A : List CK} {u u' v v' : List Value}, okL A u = true → okL A u' = true → eqL (u ++ v) (u' ++ v') = (eqL u u' && eqL v v')
  | [], [], [], v, v', _, _ => by simp [eqL]
  | [], _ :: _, _, _, _, h, _ => by simp [okL] at h
  | [], _, _ :: _, _, _, _, h => by simp [okL] at h
  | k :: A, [], _, _, _, h, _ => by cases k <;> simp [okL] at h
  | k :: A, _, [], _, _, _, h => by cases k <;> simp [okL] at h
  | k :: A, x :: u, x' :: u', v, v', h, h' => by
    have h1 : okL A u = true := by revert h; cases k <;> cases x <;> simp [okL]
    have h2 : okL A u' = true := by revert h'; cases k <;> cases x' <;> simp [okL]
    have ih := eqL_append (v := v) (v' := v') h1 h2
    revert h h'
    cases k <;> cases x <;> simp [okL] <;> cases x' <;> simp [okL, eqL, ih, Bool.and_assoc]

/-- A value of these cells. -/
def mkV (P : Program) (t : TypeId) (xs : List Value) : Value := if aggB P t then .agg xs.toArray else xs.headD undef

theorem kinds_len {P : Program} : ∀ (d : Nat) (t : TypeId), plainTy P d t = true → (kinds P d t).length = szOf P t
  | 0, t, h => by simp [plainTy] at h
  | d + 1, t, h => by
    unfold plainTy at h
    unfold kinds
    cases hu : P.underlying t with
    | none => simp [hu] at h
    | some desc =>
      cases hi : P.info? t with
      | none => cases desc <;> simp [hu, hi] at h
      | some i =>
        rw [szOf_eq hi]
        rw [hu, hi] at h
        cases desc <;> simp only [] at h <;> try (simp at h; done)
        case bool => have : i.size = 1 := by simpa using h
                     rw [this]; rfl
        case int k => have : i.size = 1 := by simpa using h
                      rw [this]; rfl
        case string => have : i.size = 1 := by simpa using h
                       rw [this]; rfl
        case array n e =>
          simp only [Bool.and_eq_true, beq_iff_eq] at h
          simp [List.length_flatten, kinds_len d e h.1, h.2]
        case struct fs =>
          simp only [Bool.and_eq_true, beq_iff_eq, List.all_eq_true] at h
          rw [h.1.2]
          have h2 := h.1.1.2
          simp only [List.length_flatten, List.map_map]
          congr 1
          apply List.map_congr_left
          intro f hf
          have := h2 f hf
          simp only [bne_iff_ne, ne_eq] at this
          simp [kinds_len d f.type this.2]

theorem hw_part {P : Program} {h : Heap} {d : Nat} {t : TypeId} {a u b : List Value} {K : Value → Heap → Prop} (pl : plainTy P d t = true) (ok : okL (kinds P d t) u = true)
    (x : K (mkV P t u) h) : hw P (part t (a ++ u ++ b).toArray a.length) h K := by
  have hl : u.length = szOf P t := by rw [okL_length ok, kinds_len d t pl]
  cases d with
  | zero => simp [plainTy] at pl
  | succ d =>
    unfold plainTy at pl
    cases hu : P.underlying t with
    | none => simp [hu] at pl
    | some desc =>
      cases hi : P.info? t with
      | none => cases desc <;> simp [hu, hi] at pl
      | some i =>
        unfold part
        refine hw_bind' (hw_isAgg hu ?_)
        unfold mkV at x
        cases hg : aggB P t with
        | true =>
          rw [hg] at x
          simp only [if_true] at x ⊢
          refine hw_bind' (hw_sizeOf hi ?_)
          rw [szOf_eq hi] at hl
          have : (a ++ u ++ b).toArray.extract a.length (a.length + i.size) = u.toArray := by
            rw [← hl]
            apply Array.ext'
            simp [List.append_assoc]
          rw [this]
          exact x
        | false =>
          rw [hg] at x
          simp only [Bool.false_eq_true, if_false] at x ⊢
          have h1 : u.length = 1 := by
            rw [hl, szOf_eq hi]
            rw [hu, hi] at pl
            unfold aggB at hg
            rw [hu] at hg
            cases desc <;> simp at pl hg <;> exact pl
          match u, h1 with
          | [w], _ =>
            have : (a ++ [w] ++ b).toArray[a.length]? = some w := by simp
            rw [this]
            exact x

theorem chunks : ∀ (As : List (List CK)) (xs ys : List Value), okL As.flatten xs = true → okL As.flatten ys = true →
    ∃ us vs : List (List Value), us.length = As.length ∧ vs.length = As.length ∧ xs = us.flatten ∧ ys = vs.flatten ∧
      (∀ (j : Nat) (A : List CK), As[j]? = some A → ∃ u v, us[j]? = some u ∧ vs[j]? = some v ∧ okL A u = true ∧ okL A v = true) ∧ eqL xs ys = (us.zip vs).all fun p => eqL p.1 p.2
  | [], xs, ys, hx, hy => by
    have e1 : xs = [] := by cases xs <;> simp_all [okL]
    have e2 : ys = [] := by cases ys <;> simp_all [okL]
    subst e1; subst e2
    exact ⟨[], [], rfl, rfl, rfl, rfl, by simp, by simp [eqL]⟩
  | A :: As, xs, ys, hx, hy => by
    obtain ⟨u, x', rfl, hu, hx', _⟩ := okL_append (A := A) (B := As.flatten) (by simpa using hx)
    obtain ⟨v, y', rfl, hv, hy', _⟩ := okL_append (A := A) (B := As.flatten) (by simpa using hy)
    obtain ⟨us, vs, h1, h2, rfl, rfl, h3, h4⟩ := chunks As x' y' hx' hy'
    refine ⟨u :: us, v :: vs, by simp [h1], by simp [h2], by simp, by simp, ?_, ?_⟩
    · intro j B hj
      cases j with
      | zero => simp at hj; subst hj; exact ⟨u, v, rfl, rfl, hu, hv⟩
      | succ j => simpa using h3 j B (by simpa using hj)
    · rw [eqL_append hu hv, h4]; simp

theorem split_at {us : List (List Value)} {j : Nat} {u : List Value} (h : us[j]? = some u) : us.flatten = (us.take j).flatten ++ u ++ (us.drop (j + 1)).flatten := by
  have hj : j < us.length := by
    rcases Nat.lt_or_ge j us.length with h1 | h1
    · exact h1
    · simp [List.getElem?_eq_none h1] at h
  have e : us = us.take j ++ u :: us.drop (j + 1) := by
    have := List.getElem?_eq_getElem hj
    rw [h] at this
    cases this
    simp
  conv => lhs; rw [e]
  simp [List.append_assoc]

theorem take_len : ∀ {As : List (List CK)} {us : List (List Value)} (j : Nat), us.length = As.length → (∀ (j : Nat) (A : List CK), As[j]? = some A → ∃ u, us[j]? = some u ∧ okL A u = true) →
    (us.take j).flatten.length = ((As.take j).map List.length).sum
  | _, _, 0, _, _ => by simp
  | [], [], j + 1, _, _ => by simp
  | [], _ :: _, _, h, _ => by simp at h
  | _ :: _, [], _, h, _ => by simp at h
  | A :: As, u :: us, j + 1, h, hk => by
    have h0 := hk 0 A rfl
    obtain ⟨u', hu', ho⟩ := h0
    simp at hu'
    subst hu'
    have ih := take_len (As := As) (us := us) j (by simpa using h) (fun i B hB => by simpa using hk (i + 1) B (by simpa using hB))
    simp only [List.take_succ_cons, List.flatten_cons, List.length_append, List.map_cons, List.sum_cons, ih, okL_length ho]

theorem hw_loopEq {P : Program} {h : Heap} {α : Type} (body : α → Option Bool × Unit → Sem (ForInStep (Option Bool × Unit))) : ∀ (items : List α) (bs : List Bool) (K : Option Bool × Unit → Heap → Prop),
    items.length = bs.length →
    (∀ (j : Nat) (it : α) (b : Bool) (K : ForInStep (Option Bool × Unit) → Heap → Prop), items[j]? = some it → bs[j]? = some b → K (if b then .yield (none, ()) else .done (some false, ())) h → hw P (body it (none, ())) h K) →
    K (if bs.all id then (none, ()) else (some false, ())) h → hw P (forIn items (none, ()) body) h K
  | [], [], K, _, _, x => by have y : K (none, ()) h := by simpa using x
                             exact y
  | [], _ :: _, _, hl, _, _ => by simp at hl
  | _ :: _, [], _, hl, _, _ => by simp at hl
  | it :: items, b :: bs, K, hl, hb, x => by
    rw [List.forIn_cons]
    refine hw_bind' (hb 0 it b _ rfl rfl ?_)
    cases b with
    | true =>
      simp only [if_true]
      refine hw_loopEq body items bs K (by simpa using hl) (fun j it b K h1 h2 => hb (j + 1) it b K (by simpa using h1) (by simpa using h2)) ?_
      simpa using x
    | false =>
      simp only [Bool.false_eq_true, if_false]
      have y : K (some false, ()) h := by simpa using x
      exact y

theorem hw_equalIn {P : Program} : ∀ (d : Nat) (t : TypeId) (xs ys : List Value) (D : Nat) (h : Heap) (K : Bool → Heap → Prop), d ≤ D → plainTy P d t = true → okL (kinds P d t) xs = true → okL (kinds P d t) ys = true →
    K (eqL xs ys) h → hw P (Op.equalIn D t (mkV P t xs) (mkV P t ys)) h K
  | 0, t, xs, ys, D, h, K, hD, pl, ox, oy, x => by simp [plainTy] at pl
  | d + 1, t, xs, ys, D, h, K, hD, pl, ox, oy, x => by
    obtain ⟨D, rfl⟩ : ∃ m, D = m + 1 := ⟨D - 1, by omega⟩
    unfold Op.equalIn
    unfold plainTy at pl
    cases hu : P.underlying t with
    | none => simp [hu] at pl
    | some desc =>
      cases hi : P.info? t with
      | none => cases desc <;> simp [hu, hi] at pl
      | some i =>
        refine hw_bind' (hw_underlying hu ?_)
        rw [hu, hi] at pl
        unfold kinds at ox oy
        rw [hu] at ox oy
        cases desc <;> simp only [] at pl ox oy <;> try (simp at pl; done)
        case bool =>
          have hg : aggB P t = false := by simp [aggB, hu]
          match xs, ox with
          | [.bool a], _ => match ys, oy with
            | [.bool b], _ =>
              simp only [mkV, hg, Bool.false_eq_true, if_false, List.headD_cons]
              have y : K (a == b) h := by simpa [eqL] using x
              exact y
        case int k =>
          have hg : aggB P t = false := by simp [aggB, hu]
          have one : ∀ zs : List Value, okL [CK.int k] zs = true → ∃ a, zs = [.int k a] := by
            intro zs hz
            match zs, hz with
            | [], hz => simp [okL] at hz
            | .int q a :: rest, hz =>
              cases rest with
              | nil => simp [okL] at hz; subst hz; exact ⟨a, rfl⟩
              | cons c cs => simp [okL] at hz
          obtain ⟨a, rfl⟩ := one xs ox
          obtain ⟨b, rfl⟩ := one ys oy
          · · skip
              simp only [mkV, hg, Bool.false_eq_true, if_false, List.headD_cons, if_true]
              have y : K (a == b) h := by simpa [eqL] using x
              exact y
        case string =>
          have hg : aggB P t = false := by simp [aggB, hu]
          match xs, ox with
          | [.string a], _ => match ys, oy with
            | [.string b], _ =>
              simp only [mkV, hg, Bool.false_eq_true, if_false, List.headD_cons]
              have y : K (a == b) h := by simpa [eqL] using x
              exact y
        case array n e =>
          have hg : aggB P t = true := by simp [aggB, hu]
          simp only [Bool.and_eq_true, beq_iff_eq] at pl
          simp only [mkV, hg, if_true]
          obtain ⟨ie, hie⟩ : ∃ ie, P.info? e = some ie := by
            cases hie : P.info? e with
            | none => have := pl.1; cases d <;> simp [plainTy, hie] at this
            | some ie => exact ⟨ie, rfl⟩
          refine hw_bind' (hw_sizeOf hie ?_)
          refine hw_bind' ?_
          simp only [Std.Legacy.Range.forIn_eq_forIn_range', Std.Legacy.Range.size, Nat.sub_zero, Nat.add_sub_cancel, Nat.div_one]
          obtain ⟨us, vs, l1, l2, e1, e2, hk, he⟩ := chunks (List.replicate n (kinds P d e)) xs ys ox oy
          have hkl := kinds_len d e pl.1
          have tl : ∀ (ws : List (List Value)) (j : Nat), ws.length = n → j ≤ n → (∀ (j : Nat) (A : List CK), (List.replicate n (kinds P d e))[j]? = some A → ∃ u, ws[j]? = some u ∧ okL A u = true) → (ws.take j).flatten.length = j * ie.size := by
            intro ws j hw hj hh
            rw [take_len (As := List.replicate n (kinds P d e)) j (by simpa using hw) hh]
            rw [← szOf_eq hie, ← hkl]
            simp [List.take_replicate, Nat.min_eq_left hj]
          refine hw_loopEq _ (List.range' 0 n) ((us.zip vs).map fun p => eqL p.1 p.2) _ (by simp [l1, l2]) ?_ ?_
          · intro j it b K' hj hb x
            have hjn : j < n := by
              rcases Nat.lt_or_ge j n with h1 | h1
              · exact h1
              · simp [List.getElem?_eq_none (l := List.range' 0 n) (by simpa using h1)] at hj
            have hit : it = j := by
              rw [List.getElem?_range' hjn] at hj
              simp at hj; omega
            subst hit
            obtain ⟨u, v, hu', hv', hou, hov⟩ := hk it (kinds P d e) (by simp [List.getElem?_replicate, hjn])
            have hbe : b = eqL u v := by
              rw [List.getElem?_map, (List.getElem?_zip_eq_some (z := (u, v))).2 ⟨hu', hv'⟩] at hb
              simpa using hb.symm
            have t1 := tl us it (by simpa using l1) (by omega) (fun j A hA => by obtain ⟨u, _, h1, _, h2, _⟩ := hk j A hA; exact ⟨u, h1, h2⟩)
            have t2 := tl vs it (by simpa using l2) (by omega) (fun j A hA => by obtain ⟨_, v, _, h1, _, h2⟩ := hk j A hA; exact ⟨v, h1, h2⟩)
            rw [e1, e2, split_at hu', split_at hv']
            refine hw_bind' ?_
            rw [← t1]
            refine hw_part pl.1 hou ?_
            refine hw_bind' ?_
            rw [t1, ← t2]
            refine hw_part pl.1 hov ?_
            refine hw_bind' (hw_equalIn d e u v D h _ (by omega) pl.1 hou hov ?_)
            rw [hbe] at x
            cases hq : eqL u v <;> simp only [hq, Bool.not_true, Bool.not_false, Bool.false_eq_true, if_true, if_false] at x ⊢ <;> exact x
          · rw [he] at x
            have : ((us.zip vs).map fun p => eqL p.1 p.2).all id = (us.zip vs).all fun p => eqL p.1 p.2 := by simp [List.all_map]
            rw [this]
            cases hq : (us.zip vs).all (fun p => eqL p.1 p.2) <;> simp only [hq, if_true, Bool.false_eq_true, if_false] at x ⊢ <;> exact x
        case struct fs =>
          have hg : aggB P t = true := by simp [aggB, hu]
          simp only [Bool.and_eq_true, beq_iff_eq, List.all_eq_true] at pl
          simp only [mkV, hg, if_true]
          refine hw_bind' ?_
          show hw P (if P.stoodInHeld t = true then _ else _) h _
          have hst : ¬ P.stoodInHeld t = true := by have := pl.1.1.1; simpa using this
          rw [if_neg hst]
          obtain ⟨us, vs, l1, l2, e1, e2, hk, he⟩ := chunks (fs.toList.map fun f => kinds P d f.type) xs ys ox oy
          have pf : ∀ f ∈ fs.toList, (f.name != "_") = true ∧ plainTy P d f.type = true := pl.1.1.2
          have tl : ∀ (ws : List (List Value)) (j : Nat), ws.length = fs.toList.length → (∀ (j : Nat) (A : List CK), (fs.toList.map fun f => kinds P d f.type)[j]? = some A → ∃ u, ws[j]? = some u ∧ okL A u = true) →
              (ws.take j).flatten.length = ((fs.toList.take j).map fun f => szOf P f.type).sum := by
            intro ws j hw hh
            rw [take_len (As := fs.toList.map fun f => kinds P d f.type) j (by simpa using hw) hh]
            rw [← List.map_take, List.map_map]
            congr 1
            apply List.map_congr_left
            intro f hf
            exact kinds_len d f.type (pf f (List.mem_of_mem_take hf)).2
          rw [← Array.forIn_toList]
          refine hw_bind' ?_
          refine hw_loopEq _ fs.toList ((us.zip vs).map fun p => eqL p.1 p.2) _ (by simp [l1, l2]) ?_ ?_
          · intro j f b K' hj hb x
            have hf : f ∈ fs.toList := List.mem_of_getElem? hj
            obtain ⟨u, v, hu', hv', hou, hov⟩ := hk j (kinds P d f.type) (by simp only [List.getElem?_map, hj, Option.map_some])
            have hbe : b = eqL u v := by
              rw [List.getElem?_map, (List.getElem?_zip_eq_some (z := (u, v))).2 ⟨hu', hv'⟩] at hb
              simpa using hb.symm
            have hoff := pl.2 (f, j) (List.mem_zipIdx_iff_getElem?.2 hj)
            have t1 := tl us j (by simpa using l1) (fun j A hA => by obtain ⟨u, _, h1, _, h2, _⟩ := hk j A hA; exact ⟨u, h1, h2⟩)
            have t2 := tl vs j (by simpa using l2) (fun j A hA => by obtain ⟨_, v, _, h1, _, h2⟩ := hk j A hA; exact ⟨v, h1, h2⟩)
            have hn : f.name ≠ "_" := by have := (pf f hf).1; simpa using this
            simp only [] at hoff
            rw [if_pos hn, hoff, e1, e2, split_at hu', split_at hv']
            refine hw_bind' ?_
            rw [← t1]
            refine hw_part (pf f hf).2 hou ?_
            refine hw_bind' ?_
            rw [t1, ← t2]
            refine hw_part (pf f hf).2 hov ?_
            refine hw_bind' (hw_equalIn d f.type u v D h _ (by omega) (pf f hf).2 hou hov ?_)
            rw [hbe] at x
            cases hq : eqL u v <;> simp only [hq, Bool.not_true, Bool.not_false, Bool.false_eq_true, if_true, if_false] at x ⊢ <;> exact x
          · rw [he] at x
            have : ((us.zip vs).map fun p => eqL p.1 p.2).all id = (us.zip vs).all fun p => eqL p.1 p.2 := by simp [List.all_map]
            rw [this]
            cases hq : (us.zip vs).all (fun p => eqL p.1 p.2) <;> simp only [hq, if_true, Bool.false_eq_true, if_false] at x ⊢ <;> exact x

end Go.Rv
