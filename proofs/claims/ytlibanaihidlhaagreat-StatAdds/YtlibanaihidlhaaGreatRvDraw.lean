/- Regions that draw their order: one order for each order of the operations that change memory, reads first, and what was read asked again behind each change that may come ahead of it. -/
import Derived.Test.YtlibanaihidlhaaGreatRvMono
import Derived.Test.YtlibanaihidlhaaGreatRvCode
namespace Go.Rv
set_option linter.unusedVariables false
set_option linter.unusedSimpArgs false

theorem stp_mono {P : Program} {n : Nat} {ops : Array Oper} {o : Oper} {fr : Fr} {h : Heap} {K K' : Fr → Heap → Prop} (hk : ∀ fr h, K fr h → K' fr h) (x : stp P n ops o fr h K) : stp P n ops o fr h K' := by
  unfold stp at x ⊢
  cases hg : o.guard with
  | none => simp only [hg] at x ⊢; exact opV_mono (fun _ _ y => hk _ _ y) x
  | some g =>
    obtain ⟨j, want⟩ := g
    simp only [hg] at x ⊢
    cases hd : (ops[j]?).bind (·.dst) with
    | none => simp only [hd] at x
    | some d =>
      simp only [hd] at x ⊢
      cases hf : fr d <;> simp only [hf] at x ⊢
      case tuple vs => exact hk _ _ x
      cases want with
      | true => exact condP_mono (opV_mono fun _ _ y => hk _ _ y) (hk _ _) x
      | false => exact condP_mono (hk _ _) (opV_mono fun _ _ y => hk _ _ y) x

theorem fr_put_other {n : Nat} {fr : Fr} {d : Option Nat} {v : Value} {t : Nat} (h : d ≠ some t) : fr.put n d v t = fr t := by
  cases d with
  | none => rfl
  | some d => rw [Fr.put_some, if_neg (by rintro ⟨_, rfl⟩; exact h rfl)]

/-- A step writes its own slot alone. -/
theorem stp_writes {P : Program} {n : Nat} {ops : Array Oper} {o : Oper} {fr : Fr} {h : Heap} {K : Fr → Heap → Prop} (x : stp P n ops o fr h K) :
    stp P n ops o fr h fun fr' h' => K fr' h' ∧ ∀ t, o.dst ≠ some t → fr' t = fr t := by
  unfold stp at x ⊢
  cases hg : o.guard with
  | none => simp only [hg] at x ⊢; exact opV_mono (fun _ _ y => ⟨y, fun t ht => fr_put_other ht⟩) x
  | some g =>
    obtain ⟨j, want⟩ := g
    simp only [hg] at x ⊢
    cases hd : (ops[j]?).bind (·.dst) with
    | none => simp only [hd] at x
    | some d =>
      simp only [hd] at x ⊢
      cases hf : fr d <;> simp only [hf] at x ⊢
      case tuple vs => exact ⟨x, fun t ht => fr_put_other ht⟩
      rename_i b
      have same : ∀ c, b = c → fr.put n (some d) (.bool c) = fr := fun c e => fr_put_same (by rw [hf, e])
      cases b with
      | true =>
        simp only [same true rfl] at x ⊢
        cases want with
        | true => exact opV_mono (fun _ _ y => ⟨y, fun t ht => fr_put_other ht⟩) x
        | false => exact ⟨x, fun t ht => fr_put_other ht⟩
      | false =>
        simp only [same false rfl] at x ⊢
        cases want with
        | true => exact ⟨x, fun t ht => fr_put_other ht⟩
        | false => exact opV_mono (fun _ _ y => ⟨y, fun t ht => fr_put_other ht⟩) x

theorem cwOps_mono {P : Program} {n : Nat} {ops : Array Oper} {K K' : Fr → Heap → Prop} (hk : ∀ fr h, K fr h → K' fr h) : ∀ (l : List Oper) (fr : Fr) (h : Heap), cwOps P n ops l fr h K → cwOps P n ops l fr h K'
  | [], fr, h, x => hk _ _ x
  | o :: l, fr, h, x => stp_mono (fun fr h y => cwOps_mono hk l fr h y) x

/-- The slots that operations write. -/
def dsts (l : List Oper) : List Nat := l.filterMap (·.dst)

theorem cwOps_writes {P : Program} {n : Nat} {ops : Array Oper} {K : Fr → Heap → Prop} : ∀ (l : List Oper) (fr : Fr) (h : Heap), cwOps P n ops l fr h K → cwOps P n ops l fr h fun fr' h' => K fr' h' ∧ ∀ t, t ∉ dsts l → fr' t = fr t
  | [], fr, h, x => ⟨x, fun _ _ => rfl⟩
  | o :: l, fr, h, x => by
    refine stp_mono (fun fr1 h1 y => ?_) (stp_writes x)
    refine cwOps_mono (fun fr2 h2 z => ⟨z.1, fun t ht => ?_⟩) l fr1 h1 (cwOps_writes l fr1 h1 y.1)
    have h3 : t ∉ dsts l := by
      intro hm
      apply ht
      unfold dsts at hm ⊢
      simp only [List.filterMap_cons]
      cases o.dst with
      | none => exact hm
      | some d => exact List.mem_cons_of_mem _ hm
    have h4 : o.dst ≠ some t := by
      intro hm
      apply ht
      unfold dsts
      simp [hm]
    rw [z.2 t h3, y.2 t h4]

/-! ### The orders -/

/-- Operations that change nothing. -/
def readB (P : Program) (o : Oper) : Bool := pureB P o || heapB P o

/-- The operations that an operation waits for. -/
def preds (ops : Array Oper) (i : Nat) : List Nat := match ops[i]? with
  | some o => (o.after.toList.filter (Region.binds .any)).map (·.on)
  | none => []

def memB : List Nat → Nat → Bool
  | [], _ => false
  | x :: xs, t => match Nat.beq x t with
    | true => true
    | false => memB xs t

theorem memB_iff : ∀ {l : List Nat} {t : Nat}, memB l t = true ↔ t ∈ l
  | [], t => by simp [memB]
  | x :: xs, t => by
    unfold memB
    cases h : Nat.beq x t with
    | true => simp [Nat.eq_of_beq_eq_true h]
    | false =>
      have : x ≠ t := by intro e; subst e; simp at h
      simp only [memB_iff (l := xs), List.mem_cons]
      exact ⟨.inr, fun e => e.resolve_left (fun e => this e.symm)⟩

theorem memB_false {l : List Nat} {t : Nat} (h : t ∉ l) : memB l t = false := by
  cases e : memB l t with
  | false => rfl
  | true => exact (h (memB_iff.1 e)).elim

theorem not_mem_of_memB {l : List Nat} {t : Nat} (h : memB l t = false) : t ∉ l := fun e => by rw [memB_iff.2 e] at h; cases h

/-- Does an operation wait for another one, by the table? -/
def ancOf (tab : List (List Nat)) (j i : Nat) : Bool := memB (tab.getD i []) j

/-- The operations, one by one, behind each change all reads that may stand ahead of it asked again. -/
def runL (P : Program) (n : Nat) (ops : Array Oper) : List (Nat × List Nat) → Fr → Heap → (Fr → Heap → Prop) → Prop
  | [], fr, h, K => K fr h
  | (i, again) :: rest, fr, h, K => match ops[i]? with
    | none => False
    | some o => stp P n ops o fr h fun fr' h' => revL P n ops again fr' h' (runL P n ops rest fr' h' K)
where
  revL (P : Program) (n : Nat) (ops : Array Oper) : List Nat → Fr → Heap → Prop → Prop
  | [], _, _, A => A
  | j :: js, fr, h, A => match ops[j]?.bind (·.dst), ops[j]? with
    | some d, some o => stp P n ops o fr h fun fr' h' => fr' d = fr d ∧ h' = h ∧ revL P n ops js fr h A
    | _, _ => False

/-- All orders of the changes that keep to who waits for whom. -/
def effOrders (anc : Nat → Nat → Bool) : Nat → List Nat → List (List Nat)
  | 0, _ => [[]]
  | f + 1, es => match es with
    | [] => [[]]
    | _ => (es.filter fun e => es.all fun e' => !anc e' e).flatMap fun e => (effOrders anc f (es.filter fun x => !Nat.beq x e)).map (e :: ·)

/-- With the changes in an order: each read as early as may be. -/
def canon (n : Nat) (rd hp : Nat → Bool) (anc : Nat → Nat → Bool) (σ : List Nat) : List (Nat × List Nat) :=
  let lev (i : Nat) : Nat := (σ.zipIdx.foldl (fun m (e, k) => match anc e i with | true => k + 1 | false => m) 0)
  let lv := (List.range n).map fun i => (i, lev i)
  let reads (m : Nat) : List (Nat × List Nat) := (lv.filter fun (i, l) => rd i && Nat.beq l m).map fun (i, _) => (i, [])
  reads 0 ++ (σ.zipIdx.map fun (e, k) => (e, (lv.filter fun (j, l) => hp j && Nat.ble l k && !anc j e).map (·.1)) :: reads (k + 1)).flatten

def allP : List Prop → Prop
  | [] => True
  | [A] => A
  | A :: B :: l => A ∧ allP (B :: l)

def readsSlot (o : Oper) (d : Nat) : Bool := o.op.operands.any fun x => match x with
  | .tmp t => Nat.beq t d
  | _ => false

def noSel (o : Oper) : Bool := match o.op with
  | .select .. => false
  | _ => true

/-- Each slot is written once, and read by who waits for its writer, or by whom its writer waits for; the table is that of the edges. -/
def soundB (ops : Array Oper) (hp : Nat → Bool) (tab : List (List Nat)) : Bool :=
  (List.range ops.size).all fun i => match ops[i]? with
    | none => false
    | some o =>
      noSel o && (preds ops i).all (fun j => Nat.blt j i) &&
      ((tab.getD i []).all fun j => memB (preds ops i) j || (preds ops i).any fun m => ancOf tab j m) &&
      (List.range ops.size).all (fun j => match ops[j]? with
        | none => false
        | some p => match p.dst with
          | none => true
          | some d => match Nat.beq i j with
            | true => !readsSlot o d
            | false => (match o.dst with | some d' => !Nat.beq d d' | none => true) && (ancOf tab j i || (ancOf tab i j && !hp i) || !readsSlot o d)) &&
      (match o.guard with
        | none => true
        | some (g, _) => ancOf tab g i && Nat.blt g ops.size)

/-- The order is one of all operations, each behind those that it waits for; a read stands behind no change but such as the last one, if it waits for that; what is to be asked again is named. -/
def orderOK (rd hp : Nat → Bool) (tab : List (List Nat)) (n : Nat) : List Nat → List (Nat × List Nat) → Bool
  | done, [] => (List.range n).all (memB done)
  | done, (i, again) :: rest => Nat.blt i n && !memB done i && (tab.getD i []).all (memB done) &&
    (match rd i with
      | true => again.isEmpty && (match done.find? fun j => !rd j with
        | none => true
        | some e => ancOf tab e i)
      | false => (done.all fun j => !hp j || ancOf tab j i || memB again j) && again.all fun j => memB done j && hp j) &&
    orderOK rd hp tab n (i :: done) rest

def rdOf (P : Program) (ops : Array Oper) (i : Nat) : Bool := match ops[i]? with
  | some o => readB P o
  | none => false

def hpOf (P : Program) (ops : Array Oper) (i : Nat) : Bool := match ops[i]? with
  | some o => !pureB P o && heapB P o
  | none => false

def eqLN : List Nat → List Nat → Bool
  | [], [] => true
  | a :: as, b :: bs => Nat.beq a b && eqLN as bs
  | _, _ => false

def orderOf (P : Program) (ops : Array Oper) (tab : List (List Nat)) (σ : List Nat) : List (Nat × List Nat) := canon ops.size (rdOf P ops) (hpOf P ops) (ancOf tab) σ

/-- The orders to be gone through, if all is as it must be. -/
def drawOK (P : Program) (ops : Array Oper) (tab : List (List Nat)) : Option (List (List Nat)) := match soundB ops (hpOf P ops) tab with
  | false => none
  | true => match (effOrders (ancOf tab) ops.size ((List.range ops.size).filter fun i => !rdOf P ops i)).all fun σ =>
      orderOK (rdOf P ops) (hpOf P ops) tab ops.size [] (orderOf P ops tab σ) && eqLN (((orderOf P ops tab σ).map (·.1)).filter fun i => !rdOf P ops i) σ with
    | false => none
    | true => some (effOrders (ancOf tab) ops.size ((List.range ops.size).filter fun i => !rdOf P ops i))

def drawW (P : Program) (n : Nat) (ops : Array Oper) (tab : List (List Nat)) (fr : Fr) (h : Heap) (K : Fr → Heap → Prop) : Prop :=
  match (match P.follows .mixedOrders with | true => drawOK P ops tab | false => none) with
  | none => False
  | some l => allP (l.map fun σ => runL P n ops (orderOf P ops tab σ) fr h K)

theorem revL_mono {P : Program} {n : Nat} {ops : Array Oper} {A B : Prop} (hk : A → B) : ∀ (js : List Nat) (fr : Fr) (h : Heap), runL.revL P n ops js fr h A → runL.revL P n ops js fr h B
  | [], fr, h, x => hk x
  | j :: js, fr, h, x => by
    unfold runL.revL at x ⊢
    split at x
    · exact stp_mono (fun _ _ y => ⟨y.1, y.2.1, revL_mono hk js fr h y.2.2⟩) x
    · exact x.elim

theorem runL_mono {P : Program} {n : Nat} {ops : Array Oper} {K K' : Fr → Heap → Prop} (hk : ∀ fr h, K fr h → K' fr h) : ∀ (l : List (Nat × List Nat)) (fr : Fr) (h : Heap), runL P n ops l fr h K → runL P n ops l fr h K'
  | [], fr, h, x => hk _ _ x
  | (i, again) :: rest, fr, h, x => by
    unfold runL at x ⊢
    split at x
    · exact x.elim
    · exact stp_mono (fun fr1 h1 y => revL_mono (runL_mono hk rest fr1 h1) _ _ _ y) x

def dstsA (ops : Array Oper) : List Nat := dsts ops.toList

theorem runL_writes {P : Program} {n : Nat} {ops : Array Oper} {K : Fr → Heap → Prop} : ∀ (l : List (Nat × List Nat)) (fr : Fr) (h : Heap), runL P n ops l fr h K → runL P n ops l fr h fun fr' h' => K fr' h' ∧ ∀ t, t ∉ dsts ops.toList → fr' t = fr t
  | [], fr, h, x => ⟨x, fun _ _ => rfl⟩
  | (i, again) :: rest, fr, h, x => by
    unfold runL at x ⊢
    split at x
    · exact x.elim
    · rename_i o ho
      refine stp_mono (fun fr1 h1 y => ?_) (stp_writes x)
      refine revL_mono (fun z => ?_) _ _ _ y.1
      refine runL_mono (fun fr2 h2 u => ⟨u.1, fun t ht => ?_⟩) rest fr1 h1 (runL_writes rest fr1 h1 z)
      rw [u.2 t ht, y.2 t]
      intro e
      apply ht
      unfold dsts
      refine List.mem_filterMap.2 ⟨o, ?_, e⟩
      exact Array.mem_toList_iff.2 (Array.mem_of_getElem? ho)

theorem allP_map_mono {α : Type} {f g : α → Prop} (hk : ∀ a, f a → g a) : ∀ l : List α, allP (l.map f) → allP (l.map g)
  | [], _ => trivial
  | [a], x => hk _ x
  | a :: b :: l, x => ⟨hk _ x.1, allP_map_mono hk (b :: l) x.2⟩

theorem allP_mem {α : Type} {f : α → Prop} : ∀ {l : List α}, allP (l.map f) → ∀ a ∈ l, f a
  | [], _, a, h => by cases h
  | [b], x, a, h => by simp at h; subst h; exact x
  | b :: c :: l, x, a, h => by
    rcases List.mem_cons.1 h with rfl | h
    · exact x.1
    · exact allP_mem (l := c :: l) x.2 a h

theorem drawW_mono {P : Program} {n : Nat} {ops : Array Oper} {tab : List (List Nat)} {fr : Fr} {h : Heap} {K K' : Fr → Heap → Prop} (hk : ∀ fr h, K fr h → K' fr h) (x : drawW P n ops tab fr h K) : drawW P n ops tab fr h K' := by
  unfold drawW at x ⊢
  generalize (match P.follows .mixedOrders with | true => drawOK P ops tab | false => none) = d at x ⊢
  cases d with
  | none => exact x
  | some l => exact allP_map_mono (fun σ y => runL_mono hk _ _ _ y) _ x

theorem drawW_writes {P : Program} {n : Nat} {ops : Array Oper} {tab : List (List Nat)} {fr : Fr} {h : Heap} {K : Fr → Heap → Prop} (x : drawW P n ops tab fr h K) : drawW P n ops tab fr h fun fr' h' => K fr' h' ∧ ∀ t, t ∉ dsts ops.toList → fr' t = fr t := by
  unfold drawW at x ⊢
  generalize (match P.follows .mixedOrders with | true => drawOK P ops tab | false => none) = d at x ⊢
  cases d with
  | none => exact x
  | some l => exact allP_map_mono (fun σ y => runL_writes _ _ _ y) _ x

/-- Sound: in whatever order the region is gone through. -/
def DrawSound (P : Program) (n : Nat) (ops : Array Oper) (tab : List (List Nat)) : Prop :=
  ∀ (t : Nat) (fr : Fr) (a : Act) (w0 w : World) (Q : Exit → Fr → Heap → Prop), Fits n fr a → Kin w0 w → drawW P n ops tab fr w.heap (Q .normal) →
    wpOps P ops (QS n w0 Q) (Region.schedule (P.follows .mixedOrders) ops t) a w

end Go.Rv
