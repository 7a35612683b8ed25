/- All rules for going through a printed reading, as one theorem: simp takes it apart. -/
import Derived.Test.YtlibanaihidlhaaGreatRvEval
namespace Go.Rv
theorem nwP_ev {h : Heap} {o : Obj} {K : Nat → Heap → Prop} : nwP h o K = K h.size (h.push o) := rfl
theorem ldI_ev' {k : IntKind} {h : Heap} {a : Addr} {K : Int → Prop} : ldI k h a K = ∃ n, hcell h a = some (.int k n) ∧ K n := rfl
theorem ldB_ev' {h : Heap} {a : Addr} {K : Bool → Prop} : ldB h a K = ∃ n, hcell h a = some (.bool n) ∧ K n := rfl
theorem ldS_ev' {h : Heap} {a : Addr} {K : ByteArray → Prop} : ldS h a K = ∃ n, hcell h a = some (.string n) ∧ K n := rfl
theorem ldP_ev' {h : Heap} {a : Addr} {K : Option Addr → Prop} : ldP h a K = ∃ n, hcell h a = some (.pointer n) ∧ K n := rfl
theorem ldM_ev' {h : Heap} {a : Addr} {K : Option Nat → Prop} : ldM h a K = ∃ n, hcell h a = some (.map n) ∧ K n := rfl
theorem ldV_ev' {h : Heap} {a : Addr} {K : Value → Prop} : ldV h a K = ∃ n, hcell h a = some n ∧ K n := rfl
theorem ldSl_ev' {h : Heap} {a : Addr} {K : Option Addr → Nat → Nat → Prop} : ldSl h a K = ∃ b l c, hcell h a = some (.slice b l c) ∧ K b l c := rfl
theorem isI_ev {k : IntKind} {n : Int} {K : Int → Prop} : isI k (.int k n) K = K n := propext ⟨fun ⟨_, e, y⟩ => by injection e with _ e; subst e; exact y, fun y => ⟨_, rfl, y⟩⟩
theorem isB_ev {n : Bool} {K : Bool → Prop} : isB (.bool n) K = K n := propext ⟨fun ⟨_, e, y⟩ => by injection e with e; subst e; exact y, fun y => ⟨_, rfl, y⟩⟩
theorem isS_ev {n : ByteArray} {K : ByteArray → Prop} : isS (.string n) K = K n := propext ⟨fun ⟨_, e, y⟩ => by injection e with e; subst e; exact y, fun y => ⟨_, rfl, y⟩⟩
theorem isP_ev {n : Option Addr} {K : Option Addr → Prop} : isP (.pointer n) K = K n := propext ⟨fun ⟨_, e, y⟩ => by injection e with e; subst e; exact y, fun y => ⟨_, rfl, y⟩⟩
theorem isM_ev {n : Option Nat} {K : Option Nat → Prop} : isM (.map n) K = K n := propext ⟨fun ⟨_, e, y⟩ => by injection e with e; subst e; exact y, fun y => ⟨_, rfl, y⟩⟩
theorem isSl_ev {a : Option Addr} {l c : Nat} {K : Option Addr → Nat → Nat → Prop} : isSl (.slice a l c) K = K a l c := propext ⟨fun ⟨_, _, _, e, y⟩ => by injection e with e1 e2 e3; subst e1 e2 e3; exact y, fun y => ⟨_, _, _, rfl, y⟩⟩
theorem isT0_ev {K : Prop} : isT0 (.tuple #[]) K = K := propext ⟨fun ⟨_, y⟩ => y, fun y => ⟨rfl, y⟩⟩
theorem exI {k : IntKind} {x : Int} {K : Int → Prop} : (∃ n, Value.int k x = Value.int k n ∧ K n) = K x := propext ⟨fun ⟨_, e, y⟩ => by injection e with _ e; subst e; exact y, fun y => ⟨_, rfl, y⟩⟩
theorem exB {x : Bool} {K : Bool → Prop} : (∃ n, Value.bool x = Value.bool n ∧ K n) = K x := propext ⟨fun ⟨_, e, y⟩ => by injection e with e; subst e; exact y, fun y => ⟨_, rfl, y⟩⟩
theorem exS {x : ByteArray} {K : ByteArray → Prop} : (∃ n, Value.string x = Value.string n ∧ K n) = K x := propext ⟨fun ⟨_, e, y⟩ => by injection e with e; subst e; exact y, fun y => ⟨_, rfl, y⟩⟩
theorem exP {x : Option Addr} {K : Option Addr → Prop} : (∃ n, Value.pointer x = Value.pointer n ∧ K n) = K x := propext ⟨fun ⟨_, e, y⟩ => by injection e with e; subst e; exact y, fun y => ⟨_, rfl, y⟩⟩
theorem exM {x : Option Nat} {K : Option Nat → Prop} : (∃ n, Value.map x = Value.map n ∧ K n) = K x := propext ⟨fun ⟨_, e, y⟩ => by injection e with e; subst e; exact y, fun y => ⟨_, rfl, y⟩⟩
theorem exV {x : Value} {K : Value → Prop} : (∃ n, x = n ∧ K n) = K x := propext ⟨fun ⟨_, e, y⟩ => by subst e; exact y, fun y => ⟨_, rfl, y⟩⟩

theorem evs : (type_of% @nnP_some) ∧ (type_of% @nwP_ev) ∧ (type_of% @ldI_ev') ∧ (type_of% @ldB_ev') ∧ (type_of% @ldS_ev') ∧ (type_of% @ldP_ev') ∧ (type_of% @ldM_ev') ∧ (type_of% @ldV_ev') ∧ (type_of% @ldSl_ev') ∧
    (type_of% @isI_ev) ∧ (type_of% @isB_ev) ∧ (type_of% @isS_ev) ∧ (type_of% @isP_ev) ∧ (type_of% @isM_ev) ∧ (type_of% @isSl_ev) ∧ (type_of% @isT0_ev) ∧ (type_of% @exI) ∧ (type_of% @exB) ∧ (type_of% @exS) ∧ (type_of% @exP) ∧ (type_of% @exM) ∧ (type_of% @exV) ∧ (type_of% @exSl) ∧
    (type_of% @isA1_mk) ∧ (type_of% @isA2_mk) ∧ (type_of% @isA3_mk) ∧ (type_of% @isA4_mk) ∧ (type_of% @isA5_mk) ∧ (type_of% @isA6_mk) ∧ (type_of% @isA7_mk) ∧ (type_of% @isA8_mk) ∧ (type_of% @isA9_mk) ∧ (type_of% @isA10_mk) ∧ (type_of% @isA11_mk) ∧ (type_of% @isA12_mk) ∧ (type_of% @isA13_mk) ∧ (type_of% @isA14_mk) ∧ (type_of% @isA15_mk) ∧ (type_of% @isA16_mk) ∧ (type_of% @isA17_mk) ∧ (type_of% @isA18_mk) ∧
    (type_of% @isT1_mk) ∧ (type_of% @isT2_mk) ∧ (type_of% @isT3_mk) ∧ (type_of% @isT4_mk) ∧ (type_of% @isT5_mk) ∧ (type_of% @add_mk) ∧ (type_of% @hcell_push_eq) ∧ (type_of% @hcell_push_lt) ∧ (type_of% @hcell_set_eq) ∧ (type_of% @hcell_set_ne) ∧ (type_of% @cellOf_row) ∧ (type_of% @st1_push) ∧ (type_of% @st1_set) ∧ (type_of% @st1_push_lt) ∧
    (type_of% @Value.int.injEq) ∧ (type_of% @Value.bool.injEq) ∧ (type_of% @Value.string.injEq) ∧ (type_of% @Value.pointer.injEq) ∧ (type_of% @Value.map.injEq) ∧ (type_of% @Value.agg.injEq) ∧ (type_of% @Value.tuple.injEq) ∧ (type_of% @Nat.zero_add) ∧ (type_of% @Nat.add_zero) ∧ (type_of% @Option.some.injEq.{0}) ∧
    (type_of% @List.getElem?_toArray.{0}) ∧ (type_of% @List.getElem?_cons_zero.{0}) ∧ (type_of% @List.getElem?_cons_succ.{0}) ∧ (type_of% @List.setIfInBounds_toArray.{0}) ∧ (type_of% @List.set_cons_zero.{0}) ∧ (type_of% @List.set_cons_succ.{0}) ∧ (type_of% @Array.size_push.{0}) ∧ (type_of% @Array.size_setIfInBounds.{0}) :=
  ⟨@nnP_some, @nwP_ev, @ldI_ev', @ldB_ev', @ldS_ev', @ldP_ev', @ldM_ev', @ldV_ev', @ldSl_ev', @isI_ev, @isB_ev, @isS_ev, @isP_ev, @isM_ev, @isSl_ev, @isT0_ev, @exI, @exB, @exS, @exP, @exM, @exV, @exSl, @isA1_mk, @isA2_mk, @isA3_mk, @isA4_mk, @isA5_mk, @isA6_mk, @isA7_mk, @isA8_mk, @isA9_mk, @isA10_mk, @isA11_mk, @isA12_mk, @isA13_mk, @isA14_mk, @isA15_mk, @isA16_mk, @isA17_mk, @isA18_mk, @isT1_mk, @isT2_mk, @isT3_mk, @isT4_mk, @isT5_mk, @add_mk, @hcell_push_eq, @hcell_push_lt, @hcell_set_eq, @hcell_set_ne, @cellOf_row, @st1_push, @st1_set, @st1_push_lt, @Value.int.injEq, @Value.bool.injEq, @Value.string.injEq, @Value.pointer.injEq, @Value.map.injEq, @Value.agg.injEq, @Value.tuple.injEq, @Nat.zero_add, @Nat.add_zero, @Option.some.injEq.{0}, @List.getElem?_toArray.{0}, @List.getElem?_cons_zero.{0}, @List.getElem?_cons_succ.{0}, @List.setIfInBounds_toArray.{0}, @List.set_cons_zero.{0}, @List.set_cons_succ.{0}, @Array.size_push.{0}, @Array.size_setIfInBounds.{0}⟩

theorem szs : (type_of% @Array.size_push.{0}) ∧ (type_of% @Array.size_setIfInBounds.{0}) ∧ (type_of% @List.size_toArray.{0}) ∧ (type_of% @List.length_cons.{0}) ∧ (type_of% @List.length_nil.{0}) := ⟨@Array.size_push.{0}, @Array.size_setIfInBounds.{0}, @List.size_toArray.{0}, @List.length_cons.{0}, @List.length_nil.{0}⟩
theorem ats : (type_of% @at_push) ∧ (type_of% @at_set) ∧ (type_of% @Array.size_push.{0}) ∧ (type_of% @Array.size_setIfInBounds.{0}) := ⟨@at_push, @at_set, @Array.size_push.{0}, @Array.size_setIfInBounds.{0}⟩
end Go.Rv
