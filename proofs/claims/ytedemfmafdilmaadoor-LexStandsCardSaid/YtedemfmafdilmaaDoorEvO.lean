/- Operations that read at most write no cell. Conditions: none. -/
import Derived.Test.YtedemfmafdilmaaDoorEvN
namespace Go.Proofs.YtedemfmafdilmaaDoor.Ev

variable {P : Program}

/-- A run that writes no block that is there. -/
def Mild (P : Program) {α : Type} : Sem α → Prop
  | .pure _ => True
  | .load _ _ k => ∀ v, Mild P (k v)
  | .store _ _ _ _ => False
  | .new _ k => ∀ r, Mild P (k r)
  | .shape _ k => ∀ x, Mild P (k x)
  | .freeze _ _ _ => False
  | .frozen _ k => ∀ b, Mild P (k b)
  | .getObj _ k => ∀ o, Mild P (k o)
  | .setObj _ _ _ => False
  | .choose _ k => ∀ n, Mild P (k n)
  | .sys _ _ => False
  | .program k => Mild P (k P)
  | .mark _ k => Mild P k
  | .halt _ => True

theorem Mild.run {α : Type} {s : Sem α} (h : Mild P s) : ∀ {w w' : World} {x : α}, s.run P w = .ok x w' → ∀ (b : Nat) (o : Obj), w.heap[b]? = some o → w'.heap[b]? = some o := by
  induction s with
  | pure a => intro w w' x hr b o hb; simp only [Sem.run] at hr; cases hr; exact hb
  | load m a k ih =>
    intro w w' x hr b o hb
    simp only [Sem.run] at hr
    split at hr
    · exact ih _ (h _) hr b o hb
    · split at hr
      · exact ih _ (h _) hr b o hb
      · cases hr
  | store m a v k ih => exact h.elim
  | new o k ih =>
    intro w w' x hr b o' hb
    simp only [Sem.run] at hr
    refine ih _ (h _) hr b o' ?_
    have : b < w.heap.size := (Array.getElem?_eq_some_iff.1 hb).1
    simp only [Array.getElem?_push]
    rw [if_neg (by omega)]
    exact hb
  | shape r k ih => intro w w' x hr; simp only [Sem.run] at hr; exact ih _ (h _) hr
  | freeze a n k ih => exact h.elim
  | frozen a k ih => intro w w' x hr; simp only [Sem.run] at hr; exact ih _ (h _) hr
  | getObj r k ih =>
    intro w w' x hr
    simp only [Sem.run] at hr
    split at hr
    · cases hr
    · exact ih _ (h _) hr
    · cases hr
  | setObj r o k ih => exact h.elim
  | choose q k ih =>
    intro w w' x hr
    simp only [Sem.run] at hr
    split at hr
    · exact ih _ (h _) hr
    · exact fun b o hb => ih _ (h _) hr b o hb
  | sys c k ih => exact h.elim
  | program k ih => intro w w' x hr; simp only [Sem.run] at hr; exact ih _ h hr
  | mark m k ih => intro w w' x hr; simp only [Sem.run] at hr; exact ih h hr
  | halt e => intro w w' x hr; simp only [Sem.run] at hr; cases hr

theorem Mild.bind' {α β : Type} {s : Sem α} {f : α → Sem β} (h : Mild P s) (k : ∀ x, Mild P (f x)) : Mild P (s.bind f) := by
  induction s with
  | pure a => exact k a
  | load m a g ih => exact fun v => ih v (h v)
  | store m a v g ih => exact h.elim
  | new o g ih => exact fun v => ih v (h v)
  | shape r g ih => exact fun v => ih v (h v)
  | freeze a n g ih => exact h.elim
  | frozen a g ih => exact fun v => ih v (h v)
  | getObj r g ih => exact fun v => ih v (h v)
  | setObj r o g ih => exact h.elim
  | choose q g ih => exact fun v => ih v (h v)
  | sys c g ih => exact h.elim
  | program g ih => exact ih P h
  | mark m g ih => exact ih h
  | halt e => trivial

theorem Mild.bind {α β : Type} {s : Sem α} {f : α → Sem β} (h : Mild P s) (k : ∀ x, Mild P (f x)) : Mild P (s >>= f) := Mild.bind' h k
theorem Mild.ite {α : Type} {c : Prop} [Decidable c] {x y : Sem α} (h : Mild P x) (k : Mild P y) : Mild P (if c then x else y) := by split <;> assumption
theorem Mild.pure {α : Type} (x : α) : Mild P (Pure.pure x : Sem α) := trivial
theorem Mild.map {α β : Type} {s : Sem α} (f : α → β) (h : Mild P s) : Mild P (f <$> s) := Mild.bind' h fun _ => trivial
theorem Mild.stuck {α : Type} (s : String) : Mild P (Go.stuck s : Sem α) := trivial
theorem Mild.unsup {α : Type} (u : Unsupported) : Mild P (unsupported u : Sem α) := trivial
theorem Mild.program : Mild P Go.program := trivial
theorem Mild.goPanic {α : Type} (v : Value) : Mild P (Go.goPanic v : Sem α) := trivial
theorem Mild.choose (q : Question) : Mild P (Go.choose q) := fun _ => trivial
theorem Mild.load (a : Addr) (m : Mode) : Mild P (Go.load a m) := fun _ => trivial
theorem Mild.new (o : Obj) : Mild P (newObj o) := fun _ => trivial
theorem Mild.shape (r : Nat) : Mild P (Go.shape r) := fun _ => trivial
theorem Mild.frozen (a : Addr) : Mild P (Go.frozen a) := fun _ => trivial
theorem Mild.getObj (r : Nat) : Mild P (Go.getObj r) := fun _ => trivial

theorem Mild.info (t : TypeId) : Mild P (typeInfo t) := by refine .bind .program fun p => ?_; split <;> trivial
theorem Mild.und (t : TypeId) : Mild P (underlying t) := by refine .bind .program fun p => ?_; split <;> trivial
theorem Mild.size (t : TypeId) : Mild P (sizeOf t) := .bind (.info t) fun _ => trivial
theorem Mild.zero (t : TypeId) : Mild P (zeroValue t) := by refine .bind (.info t) fun i => ?_; split <;> trivial
theorem Mild.agg (t : TypeId) : Mild P (isAgg t) := by refine .bind (.und t) fun d => ?_; split <;> trivial
theorem Mild.elemOf (t : TypeId) : Mild P (Go.elemOf t) := by refine .bind (.und _) fun d => ?_; split <;> trivial
theorem Mild.rt {α : Type} (e : RuntimeError) : Mild P (runtimePanic e : Sem α) := by
  refine .bind .program fun p => ?_
  cases e <;> first
    | trivial
    | exact .bind (.elemOf _) fun t => .bind (.bind (.new _) fun _ => trivial) fun _ => trivial
theorem Mild.bounds {α : Type} (k : IntKind) (x y : Int) (c : BoundsCode) : Mild P (boundsPanic k x y c : Sem α) := by
  unfold boundsPanic
  split
  · exact .bind (.map _ (.choose _)) fun _ => .rt _
  · exact .bind (.pure _) fun _ => .rt _
theorem Mild.intOf (v : Value) : Mild P (asIntOf v) := by unfold asIntOf; split <;> trivial
theorem Mild.int (v : Value) : Mild P (asInt v) := .bind (.intOf v) fun _ => trivial
theorem Mild.bool (v : Value) : Mild P (asBool v) := by unfold asBool; split <;> trivial
theorem Mild.asAgg (v : Value) : Mild P (Go.asAgg v) := by unfold Go.asAgg; split <;> trivial
theorem Mild.asAddr (v : Value) : Mild P (Go.asAddr v) := by unfold Go.asAddr; split <;> first | trivial | exact .rt _
theorem Mild.sure (v : Value) : Mild P (Instr.sureAddr v) := by unfold Instr.sureAddr; split <;> trivial
theorem Mild.part (t : TypeId) (cs : Array Value) (o : Nat) : Mild P (Go.part t cs o) := by
  refine .bind (.agg t) fun b => ?_
  split
  · exact .bind (.size t) fun _ => trivial
  · split <;> trivial
theorem Mild.cellsFrom (a : Addr) : ∀ (n i : Nat) (acc : Array Value), Mild P (loadCellsFrom a i n acc)
  | 0, _, _ => trivial
  | n + 1, i, acc => .bind (.load _ _) fun v => Mild.cellsFrom a n (i + 1) (acc.push v)
theorem Mild.loadVar (t : TypeId) (a : Addr) : Mild P (Go.loadVar t a) := by
  refine .bind (.agg t) fun b => ?_
  split
  · exact .bind (.size t) fun n => .bind (Mild.cellsFrom a n 0 #[]) fun _ => trivial
  · exact .load _ _
theorem Mild.sliceBound (x : Value) (y : Nat) (c : BoundsCode) : Mild P (Instr.sliceBound x y c) := by
  refine .bind (.intOf x) fun p => ?_
  split
  exact .ite trivial (.bounds _ _ _ _)
theorem Mild.sliceBounds (b : Bool) (l c : Nat) (lo hi : Option Value) : Mild P (Instr.sliceBounds b l c lo hi none) := by
  unfold Instr.sliceBounds
  refine .bind (.pure _) fun m => ?_
  have tail : ∀ h, Mild P (do
      let l ← match lo with
        | some v => Instr.sliceBound v h (if (none : Option Value).isSome = true then BoundsCode.slice3C else BoundsCode.sliceB)
        | none => Pure.pure 0
      Pure.pure (l, h, m) : Sem (Nat × Nat × Nat)) := fun h => by
    cases lo with
    | none => trivial
    | some v => exact .bind (.sliceBound _ _ _) fun _ => trivial
  cases hi with
  | none => exact .bind (.pure _) tail
  | some v => exact .bind (.sliceBound _ _ _) tail
theorem Mild.mapM {α β : Type} {f : α → Sem β} (h : ∀ x, Mild P (f x)) : ∀ l : List α, Mild P (l.mapM f)
  | [] => by simp only [List.mapM_nil]; trivial
  | x :: l => by
    rw [List.mapM_cons]
    exact .bind (h x) fun y => .bind (Mild.mapM h l) fun _ => trivial
theorem Mild.mapMA {α β : Type} {f : α → Sem β} (h : ∀ x, Mild P (f x)) (l : Array α) : Mild P (l.mapM f) := by
  rw [Array.mapM_eq_mapM_toList]
  exact .map _ (Mild.mapM h l.toList)

theorem Mild.intArith (op : BinOp) (k : IntKind) (x y : Int) : Mild P (Op.intArith op k x y) := by unfold Op.intArith; split <;> trivial
theorem Mild.intBits (op : BinOp) (k : IntKind) (x y : Int) : Mild P (Op.intBits op k x y) := by unfold Op.intBits; dsimp only; split <;> trivial
theorem Mild.intCmp (op : BinOp) (x y : Int) : Mild P (Op.intCmp op x y) := by unfold Op.intCmp; split <;> trivial
theorem Mild.intDiv (op : BinOp) (k : IntKind) (x y : Int) : Mild P (Op.intDiv op k x y) := by
  unfold Op.intDiv; refine .ite (.rt _) ?_; split <;> trivial
theorem Mild.shift (op : BinOp) (k : IntKind) (x : Int) (yk : IntKind) (y : Int) : Mild P (Op.shift op k x yk y) := by
  unfold Op.shift; refine .ite (.rt _) ?_; dsimp only; split <;> trivial
theorem Mild.stringOp (op : BinOp) (x y : ByteArray) : Mild P (Op.stringOp op x y) := by
  unfold Op.stringOp; dsimp only; split <;> first | trivial | exact .ite trivial trivial
theorem Mild.floatCmp (op : BinOp) (k : FloatKind) (x y : Nat) : Mild P (Op.floatCmp op k x y) := by
  unfold Op.floatCmp; dsimp only; split <;> trivial
theorem Mild.floatArith (op : BinOp) (k : FloatKind) (x y : Nat) : Mild P (Op.floatArith op k x y) := by
  have tail : ∀ r : Option Nat, Mild P (match r with
      | some r => Pure.pure (.float k r)
      | none => do Pure.pure (.float k (← Go.choose (.nanBits k x y))) : Sem Value) := fun r => by
    split
    · trivial
    · exact .bind (.choose _) fun _ => trivial
  unfold Op.floatArith
  split <;> first | exact .bind (.pure _) tail | exact .bind (.stuck _) tail

/-- One step of the road: for the texts below. -/
theorem Mild.viewAt (r : Nat) : Mild P (Go.viewAt r) := by
  refine .bind (.shape r) fun s => ?_
  refine .ite trivial ?_
  refine .bind (.getObj r) fun o => ?_
  split <;> trivial
theorem Mild.noView (a : Addr) : Mild P (Go.noView a) := by
  refine .bind (.viewAt _) fun s => ?_
  exact .ite trivial trivial
theorem Mild.numberAt (r : Nat) : Mild P (Go.numberAt r) := by
  refine .bind (.shape r) fun s => ?_
  refine .ite trivial ?_
  refine .bind (.getObj r) fun o => ?_
  split <;> trivial
theorem Mild.behind (a : Addr) : Mild P (behindNumber a) := .bind (.numberAt _) fun _ => trivial
theorem Mild.asNumber (a : Addr) (l : Bool) : Mild P (Go.asNumber a l) := .bind (.new _) fun _ => trivial
theorem Mild.byteOf (a : Addr) : Mild P (Go.byteOf a) := by
  unfold Go.byteOf
  split
  · trivial
  · refine .bind .program fun p => .bind (.noView a) fun _ => .bind (.shape _) fun s => ?_
    split
    · refine .ite trivial ?_
      split <;> trivial
    · trivial
theorem Mild.twoPlaces (a b : Addr) : Mild P (Op.twoPlaces a b) := by
  unfold Op.twoPlaces
  repeat' (first
    | trivial
    | exact Mild.floatArith _ _ _ _
    | exact Mild.floatCmp _ _ _ _
    | exact Mild.intOf _
    | exact Mild.int _
    | exact Mild.bool _
    | exact Mild.byteOf _
    | exact Mild.und _
    | exact Mild.info _
    | exact Mild.size _
    | exact Mild.noView _
    | exact Mild.viewAt _
    | exact Mild.numberAt _
    | exact Mild.behind _
    | exact Mild.asNumber _ _
    | exact Mild.choose _
    | exact Mild.shape _
    | exact Mild.frozen _
    | refine Mild.bind ?_ fun _ => ?_
    | refine Mild.ite ?_ ?_
    | split)
theorem Mild.addrSub (k : IntKind) (a b : Addr) : Mild P (Op.addrSub k a b) := .bind (.twoPlaces a b) fun _ => trivial
theorem Mild.addrCmp (op : BinOp) (a b : Addr) : Mild P (Op.addrCmp op a b) := by
  refine .bind (.twoPlaces a b) fun p => ?_
  split
  split <;> trivial
theorem Mild.addrMod (k : IntKind) (a : Addr) (n : Int) : Mild P (Op.addrMod k a n) := by
  unfold Op.addrMod
  repeat' (first
    | trivial
    | exact Mild.floatArith _ _ _ _
    | exact Mild.floatCmp _ _ _ _
    | exact Mild.intOf _
    | exact Mild.int _
    | exact Mild.bool _
    | exact Mild.byteOf _
    | exact Mild.und _
    | exact Mild.info _
    | exact Mild.size _
    | exact Mild.noView _
    | exact Mild.viewAt _
    | exact Mild.numberAt _
    | exact Mild.behind _
    | exact Mild.asNumber _ _
    | exact Mild.choose _
    | exact Mild.shape _
    | exact Mild.frozen _
    | refine Mild.bind ?_ fun _ => ?_
    | refine Mild.ite ?_ ?_
    | split)
theorem Mild.floatToFloat (s : FloatKind) (x : Nat) (d : FloatKind) : Mild P (Conv.floatToFloat s x d) := by
  unfold Conv.floatToFloat
  repeat' (first
    | trivial
    | exact Mild.floatArith _ _ _ _
    | exact Mild.floatCmp _ _ _ _
    | exact Mild.intOf _
    | exact Mild.int _
    | exact Mild.bool _
    | exact Mild.byteOf _
    | exact Mild.und _
    | exact Mild.info _
    | exact Mild.size _
    | exact Mild.noView _
    | exact Mild.viewAt _
    | exact Mild.numberAt _
    | exact Mild.behind _
    | exact Mild.asNumber _ _
    | exact Mild.choose _
    | exact Mild.shape _
    | exact Mild.frozen _
    | refine Mild.bind ?_ fun _ => ?_
    | refine Mild.ite ?_ ?_
    | split)
theorem Mild.unsafeAdd (u : Array TypeId) (t : TypeId) (xs : Array Value) : Mild P (Builtin.unsafeAdd_ u t xs) := by
  obtain ⟨l⟩ := xs
  rcases l with _ | ⟨x, _ | ⟨y, _ | ⟨z, l⟩⟩⟩
  · trivial
  · cases x <;> trivial
  · cases x <;> first | trivial | skip
    rename_i ptr
    refine .bind (.int y) fun n => ?_
    dsimp only
    repeat' (first
      | trivial
      | exact Mild.floatArith _ _ _ _
      | exact Mild.floatCmp _ _ _ _
      | exact Mild.intOf _
      | exact Mild.int _
      | exact Mild.bool _
      | exact Mild.byteOf _
      | exact Mild.und _
      | exact Mild.info _
      | exact Mild.size _
      | exact Mild.noView _
      | exact Mild.viewAt _
      | exact Mild.numberAt _
      | exact Mild.behind _
      | exact Mild.asNumber _ _
      | exact Mild.choose _
      | exact Mild.shape _
      | exact Mild.frozen _
      | refine Mild.bind ?_ fun _ => ?_
      | refine Mild.ite ?_ ?_
      | split)
  · cases x <;> trivial

end Go.Proofs.YtedemfmafdilmaaDoor.Ev
