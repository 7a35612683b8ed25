/- What an operation does hangs on its operands alone. -/
import Derived.Test.YtlibanaihidlhaaGreatRvDet
namespace Go.Rv
set_option linter.unusedVariables false
set_option linter.unusedSimpArgs false

theorem map_operands {ρ ρ' : Operand → Value} {xs : Array Operand} (h : ∀ x ∈ xs, ρ x = ρ' x) : xs.map ρ = xs.map ρ' := Array.map_congr_left h

theorem optI_congr {ρ ρ' : Operand → Value} {x : Option Operand} (h : ∀ y, x = some y → ρ y = ρ' y) : optI ρ x = optI ρ' x := by
  cases x with
  | none => rfl
  | some y => simp only [optI, h y rfl]

theorem optmap_congr {ρ ρ' : Operand → Value} {x : Option Operand} (h : ∀ y, x = some y → ρ y = ρ' y) : x.map ρ = x.map ρ' := by
  cases x with
  | none => rfl
  | some y => simp [h y rfl]

theorem opV_congr {P : Program} {o : Oper} {ρ ρ' : Operand → Value} {h : Heap} {K : Value → Heap → Prop} (hs : ∀ cs b, o.op ≠ .select cs b) (hp : ∀ x ∈ o.op.operands, ρ x = ρ' x) : opV P o ρ h K = opV P o ρ' h K := by
  obtain ⟨dst, op, type, pos, after, guard⟩ := o
  cases op
  case call c =>
    obtain ⟨callee, args, at_⟩ := c
    have ha : args.map ρ = args.map ρ' := map_operands fun x hx => hp x (by
      simp only [Op.operands, Call.operands]
      exact Array.mem_append.2 (.inr hx))
    cases callee with
    | builtin b => cases b <;> simp only [opV, pureP, heapP, effV, opH, execOp, resolve, ha]
    | value f =>
      have hf : ρ f = ρ' f := hp f (by simp [Op.operands, Call.operands])
      (simp only [opV, pureP, heapP, effV, opH, execOp, resolve, ha, hf]; first | done | rfl)
    | invoke r m =>
      have hf : ρ r = ρ' r := hp r (by simp [Op.operands, Call.operands])
      (simp only [opV, pureP, heapP, effV, opH, execOp, resolve, ha, hf]; first | done | rfl)
  case go c =>
    obtain ⟨callee, args, at_⟩ := c
    have ha : args.map ρ = args.map ρ' := map_operands fun x hx => hp x (by
      simp only [Op.operands, Call.operands]
      exact Array.mem_append.2 (.inr hx))
    cases callee with
    | builtin b => cases b <;> simp only [opV, pureP, heapP, effV, opH, execOp, resolve, ha]
    | value f =>
      have hf : ρ f = ρ' f := hp f (by simp [Op.operands, Call.operands])
      (simp only [opV, pureP, heapP, effV, opH, execOp, resolve, ha, hf]; first | done | rfl)
    | invoke r m =>
      have hf : ρ r = ρ' r := hp r (by simp [Op.operands, Call.operands])
      (simp only [opV, pureP, heapP, effV, opH, execOp, resolve, ha, hf]; first | done | rfl)
  case defer c =>
    obtain ⟨callee, args, at_⟩ := c
    have ha : args.map ρ = args.map ρ' := map_operands fun x hx => hp x (by
      simp only [Op.operands, Call.operands]
      exact Array.mem_append.2 (.inr hx))
    cases callee with
    | builtin b => cases b <;> simp only [opV, pureP, heapP, effV, opH, execOp, resolve, ha]
    | value f =>
      have hf : ρ f = ρ' f := hp f (by simp [Op.operands, Call.operands])
      (simp only [opV, pureP, heapP, effV, opH, execOp, resolve, ha, hf]; first | done | rfl)
    | invoke r m =>
      have hf : ρ r = ρ' r := hp r (by simp [Op.operands, Call.operands])
      (simp only [opV, pureP, heapP, effV, opH, execOp, resolve, ha, hf]; first | done | rfl)
  case build t ps =>
    have ha : ps.map (fun (i, x) => (i, ρ x)) = ps.map fun (i, x) => (i, ρ' x) := Array.map_congr_left fun x hx => by
      show (x.1, ρ x.2) = (x.1, ρ' x.2)
      rw [hp x.2 (by simp [Op.operands]; exact ⟨x.1, hx⟩)]
    simp only [opV, pureP, heapP, effV, opH, execOp, ha]
  case buildSlice t n ps =>
    have ha : ps.map (fun (i, x) => (i, ρ x)) = ps.map fun (i, x) => (i, ρ' x) := Array.map_congr_left fun x hx => by
      show (x.1, ρ x.2) = (x.1, ρ' x.2)
      rw [hp x.2 (by simp [Op.operands]; exact ⟨x.1, hx⟩)]
    simp only [opV, pureP, heapP, effV, opH, execOp, ha]
  case makeFunc fn first cap =>
    have h1 : first.map ρ = first.map ρ' := map_operands fun x hx => hp x (by simp [Op.operands, hx])
    have h2 : cap.map ρ = cap.map ρ' := map_operands fun x hx => hp x (by simp [Op.operands, hx])
    simp only [opV, pureP, heapP, effV, opH, execOp, h1, h2]
  case makeMap t r =>
    have h1 : r.map ρ = r.map ρ' := optmap_congr fun y e => hp y (by simp [Op.operands, e])
    simp only [opV, pureP, heapP, effV, opH, execOp, h1]
  case slice t x lo hi mx =>
    have hx : ρ x = ρ' x := hp x (by simp [Op.operands])
    have h1 := optI_congr (ρ := ρ) (ρ' := ρ') (x := lo) fun y e => hp y (by simp [Op.operands, e])
    have h2 := optI_congr (ρ := ρ) (ρ' := ρ') (x := hi) fun y e => hp y (by simp [Op.operands, e])
    have h3 := optI_congr (ρ := ρ) (ρ' := ρ') (x := mx) fun y e => hp y (by simp [Op.operands, e])
    have h4 : lo.map ρ = lo.map ρ' := optmap_congr fun y e => hp y (by simp [Op.operands, e])
    have h5 : hi.map ρ = hi.map ρ' := optmap_congr fun y e => hp y (by simp [Op.operands, e])
    have h6 : mx.map ρ = mx.map ρ' := optmap_congr fun y e => hp y (by simp [Op.operands, e])
    simp only [opV, pureP, heapP, effV, opH, execOp, hx, h1, h2, h3, h4, h5, h6]
  case select cs b => exact (hs cs b rfl).elim
  case binOp op t x y yt =>
    have h1 : ρ x = ρ' x := hp x (by simp [Op.operands])
    have h2 : ρ y = ρ' y := hp y (by simp [Op.operands])
    cases op <;> simp only [opV, pureP, heapP, effV, opH, execOp, h1, h2]
  all_goals (simp only [Op.operands, List.mem_toArray, List.mem_cons, List.not_mem_nil, or_false, forall_eq_or_imp, forall_eq] at hp)
  all_goals try (simp only [opV, pureP, heapP, effV, opH, execOp, hp]; done)
  all_goals try (simp only [opV, pureP, heapP, effV, opH, execOp, hp.1, hp.2]; done)
  all_goals (simp only [opV, pureP, heapP, effV, opH, execOp, hp.1, hp.2.1, hp.2.2]; done)

end Go.Rv
