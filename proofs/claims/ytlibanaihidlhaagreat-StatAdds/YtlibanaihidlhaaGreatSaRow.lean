/- StatAdds: the report of two is what the document says, saved are both's together: for every two reports; no condition. -/
import Derived.Test.YtlibanaihidlhaaGreatRows
import Derived.Test.YtlibanaihidlhaaGreatSaC
import Derived.WalkKit
import Derived.ProofKit
import Derived.OpenShut
import Derived.ShutString
import Derived.ChangeOld
import Derived.Below
import Derived.Carry
import Derived.SizedLaws
namespace Go.Rv
open Go.ChangeShapes Go.WideShapes Go.ChangeAt Go.RowKit
theorem report_ints {H : Type} {enc : TypeId × Value → H} {P : Program} {W : World} {base : Nat} {spare : Nat → Bool} {held : Bool} {t e : TypeId} {fs : Array Field} {n : Nat} {v : Value} {d : DataW H} {p : List MemPlace} {r : Reach} {b0 : Nat}
    (ht : P.underlying t = some (.struct fs)) (he : P.underlying e = some (.int .i64)) (ce : P.cellsOf e = 1) (ct : P.cellsOf t = n) (hn : fs.size = n) (hf0 : (fs.toList.zipIdx.all fun x => x.1.type == e && x.1.offset == x.2) = true)
    (hval : Value.okWide P W r b0 t v) (hd : DataW.Trod enc P W base spare held t v d p) :
    ∃ ns : List Int, v = .agg (ns.map (Value.int .i64)).toArray ∧ ns.length = n := by
  have hf : ∀ i (f : Field), fs[i]? = some f → f.type = e ∧ f.offset = i := by
    intro i f hi
    have h := List.all_eq_true.1 hf0 (f, i) (by rw [List.mem_zipIdx_iff_getElem?]; simpa using hi)
    simpa using h
  obtain ⟨cs, rfl, hcs⟩ := Go.WideShapes.okWide_struct ht hval
  obtain ⟨fuel, hf'⟩ := hd
  obtain ⟨xs, m, _, _, hl, hlen, hh⟩ := DataW.trod_struct ht hf'
  simp only [Value.cells] at hl hh
  have hc : ∀ i, i < n → ∃ k : Int, cs.toList[i]? = some (.int .i64 k) := by
    intro i hi
    have hfi : ∃ f, fs[i]? = some f := ⟨fs[i], Array.getElem?_eq_getElem (by omega)⟩
    obtain ⟨f, hfi⟩ := hfi
    obtain ⟨e1, e2⟩ := hf i f hfi
    have q := hh i f hfi
    rw [e1, e2, ce] at q
    have hx : ∃ x, xs[i]? = some x := ⟨xs[i], List.getElem?_eq_getElem (by omega)⟩
    obtain ⟨x, hx⟩ := hx
    rw [hx] at q
    obtain ⟨k, e3, _⟩ := DataW.trod_int he q
    refine ⟨k, ?_⟩
    have : ((cs.toList.drop i).take 1)[0]? = some (.int .i64 k) := by rw [e3]; rfl
    simpa [List.getElem?_take] using this
  have : ∀ (l : List Value) (m : Nat), l.length = m → (∀ i, i < m → ∃ k : Int, l[i]? = some (.int .i64 k)) → ∃ ns : List Int, l = ns.map (Value.int .i64) ∧ ns.length = m := by
    intro l
    induction l with
    | nil => intro m h _; exact ⟨[], rfl, by simpa using h⟩
    | cons a l ih =>
      intro m h hc
      cases m with
      | zero => simp at h
      | succ m =>
        obtain ⟨k, hk⟩ := hc 0 (by omega)
        obtain ⟨ns, e, hl⟩ := ih m (by simpa using h) (fun i hi => by simpa using hc (i + 1) (by omega))
        simp only [List.getElem?_cons_zero, Option.some.injEq] at hk
        exact ⟨k :: ns, by rw [e, hk]; rfl, by simp [hl]⟩
  obtain ⟨ns, e, hl⟩ := this cs.toList n (by omega) hc
  exact ⟨ns, by rw [← e], hl⟩
end Go.Rv
namespace Go.Proofs.YtlibanaihidlhaaGreat.SA
open Go.ChangeShapes Go.WideShapes Go.ChangeAt Go.RowKit
set_option linter.unusedVariables false
theorem own : ownKnob Tryz.prog.godebug = none := by kernel_rfl
theorem laidOut : laidOutB Tryz.prog = true := by kernel_rfl
theorem walk (ns ms : List Int) (hn : ns.length = 7) (hm : ms.length = 7) (w : World) :
    Calls Tryz.prog 3 #[.agg (ns.map (Value.int .i64)).toArray, .agg (ms.map (Value.int .i64)).toArray] w fun e w' => e = .returned (.bool true) ∧ Below w.heap.size w w' := by
  match ns, hn, ms, hm with
  | [a0, a1, a2, a3, a4, a5, a6], _, [b0, b1, b2, b3, b4, b5, b6], _ =>
    have c := (Go.Rv.R_retiarylaw28_StatAdds (Go.Rv.C_StatAdds (a0 := a0) (a1 := a1) (a2 := a2) (a3 := a3) (a4 := a4) (a5 := a5) (a6 := a6) (b0 := b0) (b1 := b1) (b2 := b2) (b3 := b3) (b4 := b4) (b5 := b5) (b6 := b6) (h := w.heap))).2 w rfl
    refine c.mono ?_
    rintro e w' ⟨v, rfl, ⟨rfl, k⟩, kin⟩
    exact ⟨rfl, ⟨kin.os, kin.tape, kin.output, k.size, fun i hi => k.at_ i hi id⟩⟩
set_option maxRecDepth 100000 in
theorem lifted (os : Os) (started : os.Started) (H : Type) (enc : TypeId × Value → H) :
    ReturnsInHanded {} Tryz.checked os 3 .any (Rows.statAddsSpec.pre6 enc Tryz.prog Tryz.f3 Rows.statAddsRow.domain false) (Rows.statAddsSpec.post enc Tryz.prog Tryz.f3 false true false false) := by
  refine returnsInHanded_of_change_sized (C := Tryz.checked) own started (by kernel_rfl) Tryz.func3
    (ChangeSpec.witness6 (enc := enc) (C := Tryz.checked) false ⟨#[], #[.agg #[.int .i64 0, .int .i64 0, .int .i64 0, .int .i64 0, .int .i64 0, .int .i64 0, .int .i64 0], .agg #[.int .i64 0, .int .i64 0, .int .i64 0, .int .i64 0, .int .i64 0, .int .i64 0, .int .i64 0]], []⟩ 8 (by kernel_rfl) (by kernel_rfl) (by kernel_rfl) (by kernel_rfl)) ?_
  intro W base args ds gs before hval0 hW hcnd hsz0 _
  have hval : ∀ (j : Nat) t v, Tryz.f3.params[j]? = some t → args[j]? = some v → Value.okWide Tryz.prog W .any base t v := hval0
  have hW' := hW
  obtain ⟨p, q, hA0, hV, rfl, hfz, hnd⟩ := hW
  have hA : DataW.TrodAll enc Tryz.prog W 0 (fun _ => true) true Tryz.f3.params.toList args.toList ds p := hA0
  rw [Tryz.params3] at hA hval
  obtain ⟨v0, vs0, d0, ds0, p0, q0, hargs, rfl, rfl, h0, r0⟩ := trodAll_cons hA
  obtain ⟨v1, vs1, d1, ds1, p1, q1, rfl, rfl, rfl, h1, r1⟩ := trodAll_cons r0
  obtain ⟨rfl, rfl, rfl⟩ := trodAll_nil r1
  obtain rfl : args = #[v0, v1] := by cases args; simp_all
  obtain ⟨rfl, rfl⟩ := trodVars_none hV
  have k0 := h0
  have k1 := h1
  have lt0 : ∀ x ∈ p0, x.block < W.heap.size := by obtain ⟨m, hm⟩ := k0; exact DataW.trod_lt m _ _ _ hm
  have lt1 : ∀ x ∈ p1, x.block < W.heap.size := by obtain ⟨m, hm⟩ := k1; exact DataW.trod_lt m _ _ _ hm
  obtain ⟨ns, rfl, hn⟩ := Go.Rv.report_ints Tryz.underlying23 Tryz.underlying3 (by kernel_rfl) (by kernel_rfl : Program.cellsOf Tryz.prog 23 = 7) rfl rfl (hval 0 23 v0 rfl rfl) h0
  obtain ⟨ms, rfl, hm⟩ := Go.Rv.report_ints Tryz.underlying23 Tryz.underlying3 (by kernel_rfl) (by kernel_rfl : Program.cellsOf Tryz.prog 23 = 7) rfl rfl (hval 1 23 v1 rfl rfl) h1
  clear hA0 hval0 hsz0
  refine (walk ns ms hn hm W).mono fun e W' ⟨he, bel⟩ => ?_
  subst he
  exact ⟨_, rfl, _, _, _, [], _, [], hW', trodAll_mk1 (shut_bool Tryz.underlying4 _), (trodAll_cons_mk (Below.trod laidOut (by kernel_rfl) (of_decide_eq_true (by kernel_rfl)) k0 bel lt0) (trodAll_cons_mk (Below.trod laidOut (by kernel_rfl) (of_decide_eq_true (by kernel_rfl)) k1 bel lt1) trodAll_mk0)), rfl, bel.frame _, fun h => by cases h⟩
theorem over : Rows.statAddsRow.holds Tryz.pinned (OpenSpec.ofChange Rows.statAddsSpec) :=
  OpenClaim.holds_of_wide 3 Tryz.f3 rfl rfl rfl rfl rfl rfl rfl ⟨rfl, rfl, rfl, rfl, rfl⟩ rfl rfl rfl rfl rfl (by kernel_rfl) Tryz.func3 (by kernel_rfl)
    (of_decide_eq_true (by kernel_rfl)) (by unfold Func.isWrapper; first | (rw [if_pos (by decide +kernel)]; kernel_rfl) | (rw [if_neg (by decide +kernel)]; exact ⟨rfl, rfl⟩))
    (fun os started H enc _ => lifted os started H enc)
theorem proved : Rows.StatAddsSaid := over
#print axioms proved
end Go.Proofs.YtlibanaihidlhaaGreat.SA
namespace Go.Proofs.YtlibanaihidlhaaGreat
/-- The row, under a short name, for the claim. -/
theorem statAdds_holds : Rows.StatAddsSaid := SA.proved
end Go.Proofs.YtlibanaihidlhaaGreat
