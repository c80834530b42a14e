/- Still operations write no cell and answer a value. Conditions: none. -/
import Derived.Test.YtedemfmafdilmaaDoorEvO
namespace Go.Proofs.YtedemfmafdilmaaDoor.Ev

variable {P : Program}

theorem Mild.carith (op : BinOp) (k : FloatKind) (x y : Nat) : Mild P (Op.Complex.arith op k x y) := by
  refine .bind (.floatArith _ _ _ _) fun v => ?_
  split <;> trivial
theorem Mild.ccmp (op : BinOp) (k : FloatKind) (x y : Nat) : Mild P (Op.Complex.cmp op k x y) := .bind (.floatCmp _ _ _ _) fun _ => .bool _
theorem Mild.cconv (k : FloatKind) (x : Nat) (d : FloatKind) : Mild P (Op.Complex.conv k x d) := by
  refine .ite trivial (.bind (.floatToFloat _ _ _) fun v => ?_)
  split <;> trivial
theorem Mild.product (a b c d : Nat) : Mild P (Op.Complex.product a b c d) := by
  unfold Op.Complex.product Op.Complex.sub Op.Complex.add Op.Complex.mul
  repeat' (first | exact Mild.pure _ | exact Mild.stuck _ | exact Mild.carith _ _ _ _ | refine Mild.bind ?_ fun _ => ?_)
theorem Mild.corrected (s a b c d : Nat) : Mild P (Op.Complex.corrected s a b c d) := by
  unfold Op.Complex.corrected Op.Complex.sub Op.Complex.add Op.Complex.mul
  repeat' (first | exact Mild.pure _ | exact Mild.stuck _ | exact Mild.carith _ _ _ _ | refine Mild.bind ?_ fun _ => ?_)
theorem Mild.quotient (a b c d : Nat) : Mild P (Op.Complex.quotient a b c d) := by
  unfold Op.Complex.quotient Op.Complex.sub Op.Complex.add Op.Complex.mul Op.Complex.quo
  repeat' (first
    | with_reducible (first | exact Mild.pure _ | exact Mild.carith _ _ _ _ | exact Mild.ccmp _ _ _ _ | exact Mild.corrected _ _ _ _ _ | refine Mild.bind ?_ fun _ => ?_ | refine Mild.ite ?_ ?_)
    | split)
theorem Mild.complexOp (op : BinOp) (k : FloatKind) (a b c d : Nat) : Mild P (Op.complexOp op k a b c d) := by
  unfold Op.complexOp
  repeat' (first
    | with_reducible (first | exact Mild.pure _ | exact Mild.stuck _ | exact Mild.carith _ _ _ _ | exact Mild.ccmp _ _ _ _ | exact Mild.cconv _ _ _ | exact Mild.product _ _ _ _ | exact Mild.quotient _ _ _ _ | refine Mild.bind ?_ fun _ => ?_ | refine Mild.ite ?_ ?_)
    | split)

def Prim (P : Program) (t : TypeId) : Prop := P.underlying t = some .bool ∨ (∃ k, P.underlying t = some (.int k)) ∨ P.underlying t = some .string

theorem Mild.und_bind {t : TypeId} {d : TypeDesc} {β : Type} {f : TypeDesc → Sem β} (h : P.underlying t = some d) (k : Mild P (f d)) : Mild P (underlying t >>= f) := by
  show Mild P (Sem.bind (match P.underlying t with | some d => Sem.pure d | none => Go.stuck "no such type") f)
  rw [h]
  exact k

theorem Mild.eqGuardIn (d : Nat) {t : TypeId} (h : Prim P t) (a b : Value) : Mild P (Op.eqGuardIn (d + 1) t a b) := by
  unfold Op.eqGuardIn
  rcases h with h | ⟨k, h⟩ | h <;> exact .und_bind h trivial

theorem Mild.eqGuard {op : BinOp} {t : TypeId} {x y : Operand} {u v : Value} (h : Prim P t) : Mild P (Go.eqGuard op t x y u v) := by
  unfold Go.eqGuard
  refine .ite trivial ?_
  split
  · exact .ite trivial (.bind (.eqGuardIn 9999 h _ _) fun r => .ite trivial trivial)
  · refine .bind .program fun p => .bind .program fun q => ?_
    exact .ite trivial (.bind (.eqGuardIn 9999 h _ _) fun r => .ite trivial trivial)
  · trivial

theorem Mild.equalIn (d : Nat) {t : TypeId} (h : Prim P t) (x y : Value) : Mild P (Op.equalIn (d + 1) t x y) := by
  unfold Op.equalIn
  rcases h with h | ⟨k, h⟩ | h
  · refine .und_bind h ?_
    cases x <;> cases y <;> trivial
  · refine .und_bind h ?_
    cases x <;> cases y <;> first | trivial | skip
    all_goals
      dsimp only
      repeat' (first | trivial | exact Mild.behind _ | exact Mild.byteOf _ | exact Mild.info _ | exact Mild.program | refine Mild.bind ?_ fun _ => ?_ | refine Mild.ite ?_ ?_ | split)
  · refine .und_bind h ?_
    cases x <;> cases y <;> trivial

theorem Mild.movedPointer (t : TypeId) (x y : Value) : Mild P (Go.movedPointer t x y) := by
  unfold Go.movedPointer
  repeat' (first | trivial | exact Mild.unsafeAdd _ _ _ | exact Mild.numberAt _ | refine Mild.bind ?_ fun _ => ?_ | refine Mild.ite ?_ ?_ | split)

theorem Mild.movedNumber (t : TypeId) (x y : Value) : Mild P (Go.movedNumber t x y) := by
  unfold Go.movedNumber
  repeat' (first | trivial | exact Mild.unsafeAdd _ _ _ | exact Mild.und _ | exact Mild.behind _ | exact Mild.asNumber _ _ | refine Mild.bind ?_ fun _ => ?_ | refine Mild.ite ?_ ?_ | split)

theorem Mild.binOp {op : BinOp} {t : TypeId} (h : Prim P t) (x y : Value) : Mild P (Go.binOp op t x y) := by
  unfold Go.binOp
  split
  all_goals first
    | trivial
    | exact .shift _ _ _ _ _
    | exact .stringOp _ _ _
    | exact .bind (.equalIn 9999 h _ _) fun _ => trivial
    | exact .movedNumber _ _ _
    | exact .bind (.und _) fun _ => by split <;> first | exact .movedPointer _ _ _ | exact .movedNumber _ _ _
    | exact .bind (.behind _) fun _ => .bind (.behind _) fun _ => .addrSub _ _ _
    | exact .bind (.behind _) fun _ => .bind (.behind _) fun _ => .addrCmp _ _ _
    | exact .bind (.behind _) fun _ => .addrMod _ _ _
    | (refine .ite trivial ?_; split <;> first | exact .intArith _ _ _ _ | exact .intDiv _ _ _ _ | exact .intBits _ _ _ _ | exact .intCmp _ _ _ | exact .floatArith _ _ _ _ | exact .floatCmp _ _ _ _ | exact .complexOp _ _ _ _ _ _)
    | (refine .ite trivial ?_; exact .complexOp _ _ _ _ _ _)

/-- A run that answers a value and writes no block that is there. -/
def Tame (P : Program) (s : Sem Next) : Prop := ∀ (w : World) (x : Next) (w' : World), s.run P w = .ok x w' → (∃ v, x = .value v) ∧ ∀ (b : Nat) (o : Obj), w.heap[b]? = some o → w'.heap[b]? = some o

theorem Tame.of {s : Sem Value} (h : Mild P s) : Tame P (do pure (.value (← s))) := by
  intro w x w' hr
  simp only [Sem.run_bind] at hr
  cases hs : s.run P w with
  | ok a w1 =>
    rw [hs] at hr
    simp only [Result.andThen_ok, Sem.run_pure] at hr
    cases hr
    exact ⟨⟨_, rfl⟩, h.run hs⟩
  | halt e w1 => rw [hs] at hr; cases hr

theorem Tame.bind {α : Type} {s : Sem α} {f : α → Sem Next} (h : Mild P s) (k : ∀ a, Tame P (f a)) : Tame P (s >>= f) := by
  intro w x w' hr
  simp only [Sem.run_bind] at hr
  cases hs : s.run P w with
  | ok a w1 =>
    rw [hs] at hr
    simp only [Result.andThen_ok] at hr
    obtain ⟨h1, h2⟩ := k a w1 x w' hr
    exact ⟨h1, fun b o hb => h2 b o (h.run hs b o hb)⟩
  | halt e w1 => rw [hs] at hr; cases hr

theorem Tame.halt (e : Halt) : Tame P (.halt e) := fun w x w' hr => by simp at hr
theorem Tame.ite {c : Prop} [Decidable c] {x y : Sem Next} (h : Tame P x) (k : Tame P y) : Tame P (if c then x else y) := by split <;> assumption

theorem Tame.value (v : Value) : Tame P (pure (.value v)) := fun w x w' hr => by
  simp only [Sem.run_pure] at hr; cases hr; exact ⟨⟨_, rfl⟩, fun _ _ h => h⟩
theorem Tame.panic (e : RuntimeError) : Tame P (runtimePanic e) := fun w x w' hr => by
  have : ∀ w, ∃ h w', (runtimePanic e : Sem Next).run P w = .halt h w' := fun w => by
    unfold runtimePanic
    simp only [Sem.run_bind, run_program, Result.andThen_ok]
    cases e <;> simp only <;> first
      | exact ⟨_, _, rfl⟩
      | skip
    all_goals
      simp only [Sem.run_bind]
      generalize (Go.elemOf _).run P w = r
      cases r with
      | halt e w1 => exact ⟨_, _, rfl⟩
      | ok a w1 =>
        simp only [Result.andThen_ok]
        generalize (newVar _ _).run P w1 = r2
        cases r2 with
        | halt e w2 => exact ⟨_, _, rfl⟩
        | ok b w2 => exact ⟨_, _, rfl⟩
  obtain ⟨h, w1, h1⟩ := this w
  rw [h1] at hr; cases hr
theorem Tame.unsup (u : Unsupported) : Tame P (unsupported u) := fun w x w' hr => by simp at hr

theorem Mild.follow : ∀ (l : List FieldStep) (t : TypeId) (x : Option Value), Mild P (Go.followBlind l t x) := by
  intro l
  induction l with
  | nil => intro t x; exact Mild.pure _
  | cons s l ih =>
    intro t x
    unfold Go.followBlind
    refine .bind (.und _) fun d => ?_
    split
    · split
      · split <;> first | exact Mild.pure _ | exact Mild.stuck _ | exact ih _ _ | exact .bind (.part _ _ _) fun _ => ih _ _
      · exact Mild.stuck _
    · exact Mild.stuck _

theorem Mild.nilAhead : ∀ (n : Nat) (t : TypeId) (v : Value) (s : String), Mild P (Go.nilAhead n t v s) := by
  intro n
  induction n with
  | zero => intro t v s; exact Mild.pure _
  | succ n ih =>
    intro t v s
    unfold Go.nilAhead
    refine .bind (.info _) fun i => ?_
    split
    · refine .bind (.follow _ _ _) fun r => ?_
      split
      · exact Mild.pure _
      · split <;> first | exact Mild.pure _ | exact Mild.stuck _ | exact ih _ _ _ | (refine .bind (.und _) fun d => ?_; split <;> exact Mild.pure _)
    · exact Mild.stuck _

theorem Mild.partAt (a : Addr) (c b : Nat) : Mild P (Go.partAt a c b) := .bind (.byteOf _) fun _ => .bind (.byteOf _) fun _ => Mild.pure _
theorem Mild.fieldPlace (a : Addr) (f : Field) : Mild P (Go.fieldPlace a f) := .bind (.size _) fun _ => .ite (.partAt _ _ _) (Mild.pure _)

theorem still_tame {o : Oper} (h : stillOp P o.op = true) (ev : Operand → Value) : Tame P (execOp ev o) := by
  obtain ⟨dst, op, ty, pos, after, guard⟩ := o
  cases op <;> simp only [stillOp] at h <;> first | (cases h; done) | skip
  case move x => exact .value _
  case assign x => exact .value _
  case pick c a b => exact .bind (.bool _) fun _ => .value _
  case build t parts =>
    refine .of ?_
    unfold Instr.build
    refine .bind (.zero _) fun z => .bind (.und _) fun d => ?_
    split
    · refine .bind (.mapMA (fun f => .bind (.size _) fun _ => Mild.pure _) _) fun pl => ?_
      split <;> trivial
    · refine .bind (.size _) fun s => ?_
      split <;> trivial
    · trivial
  case load t x => exact .of (.bind (.sure _) fun a => .loadVar _ _)
  case nilCheck x =>
    simp only [execOp]
    split
    · exact .panic _
    · exact .panic _
    · exact .panic _
    · split
      · exact .panic _
      · refine .bind .program fun p => .bind (.nilAhead _ _ _ _) fun r => ?_
        exact .ite (.bind (.unsup _) fun _ => .value _) (.value _)
      · exact .value _
    · exact .value _
  case binOp op t x y yt =>
    have hp : Prim P t := by
      split at h
      · rename_i hu; exact .inl hu
      · rename_i k hu; exact .inr (.inl ⟨k, hu⟩)
      · rename_i hu; exact .inr (.inr hu)
      · split at h <;> cases h
    exact .of (.bind (.eqGuard hp) fun _ => .binOp hp _ _)
  case unOp op t x =>
    refine .of ?_
    unfold Op.unary
    split <;> first | trivial | exact .intArith _ _ _ _ | exact .intBits _ _ _ _
  case convert s d x =>
    refine .of ?_
    unfold Go.convert
    split at h
    · rename_i j k hs hd
      refine .und_bind hs (.und_bind hd ?_)
      cases ev x <;> first | exact Mild.pure _ | exact Mild.stuck _ | exact Mild.unsup _ | skip
      · dsimp only
        unfold Conv.floatToInt
        dsimp only
        split
        · exact .ite (Mild.pure _) (.bind (.choose _) fun _ => Mild.pure _)
        · exact .bind (.choose _) fun _ => Mild.pure _
      · rename_i p
        cases p <;> exact Mild.unsup _
    · rename_i hs hd
      refine .und_bind hs (.und_bind hd ?_)
      cases ev x <;> first | exact Mild.pure _ | exact Mild.stuck _ | exact Mild.unsup _
    · cases h
  case makeInterface t x =>
    refine .of (.bind (.und _) fun d => ?_)
    split <;> trivial
  case makeFunc f a b => exact .of trivial
  case slice t x lo hi mx =>
    cases mx with
    | some m => cases h
    | none =>
      refine .of ?_
      unfold Instr.sliceAt
      refine .bind (.und _) fun d => ?_
      split
      · refine .bind (.sure _) fun a => .bind (.sliceBounds _ _ _ _ _) fun p => ?_
        split
        exact .bind (.size _) fun _ => Mild.pure _
      · unfold Instr.slice
        refine .bind (.und _) fun d => ?_
        split
        · refine .ite (.bind (.stuck _) fun _ => ?_) ?_
          · refine .bind (.sliceBounds _ _ _ _ _) fun p => ?_
            split
            exact Mild.pure _
          · refine .bind (.sliceBounds _ _ _ _ _) fun p => ?_
            split
            exact Mild.pure _
        · refine .bind (.sliceBounds _ _ _ _ _) fun p => ?_
          split
          exact .bind (.size _) fun _ => Mild.pure _
        · refine .bind (.asAddr _) fun a => .bind (.und _) fun d => ?_
          split
          · refine .bind (.sliceBounds _ _ _ _ _) fun p => ?_
            split
            exact .bind (.size _) fun _ => Mild.pure _
          · exact Mild.stuck _
        · exact Mild.stuck _
  case fieldAddr s x f =>
    refine .of (.bind (.und _) fun d => ?_)
    split
    · split
      · exact .bind (.sure _) fun a => .bind (.fieldPlace _ _) fun _ => Mild.pure _
      · exact Mild.stuck _
    · exact Mild.stuck _
  case field t x f =>
    refine .of (.bind (.und _) fun d => ?_)
    split
    · split
      · exact .bind (.asAgg _) fun _ => .part _ _ _
      · trivial
    · trivial
  case indexAddr t x i =>
    refine .of ?_
    unfold Instr.indexAt
    refine .bind (.intOf _) fun p => ?_
    obtain ⟨k, j⟩ := p
    refine .bind (.und _) fun d => ?_
    extract_lets jp
    have tail : ∀ q : Option Addr × Nat × TypeId, Mild P (jp q) := fun q => by
      obtain ⟨base, len, elem⟩ := q
      refine .bind (.und _) fun d => ?_
      cases base with
      | none => exact .bounds _ _ _ _
      | some a => exact .ite (.bind (.size _) fun _ => Mild.pure _) (.ite (Mild.unsup _) (.bounds _ _ _ _))
    split
    · exact .bind (.sure _) fun _ => .bind (Mild.pure _) tail
    · exact .bind (Mild.pure _) tail
    · exact .bind (Mild.stuck _) tail
  case index t x i =>
    refine .of ?_
    unfold Instr.index
    refine .bind (.intOf _) fun p => ?_
    obtain ⟨k, j⟩ := p
    refine .bind (.und _) fun d => ?_
    split
    · exact .ite (.bind (.size _) fun _ => .part _ _ _) (.bounds _ _ _ _)
    · split
      · exact Mild.pure _
      · exact .bounds _ _ _ _
    · exact Mild.stuck _
  case extract x i =>
    refine .of ?_
    unfold Instr.extract
    split
    · split <;> trivial
    · trivial
  case call c =>
    split at h
    · rename_i hc
      have : execOp ev ⟨dst, .call c, ty, pos, after, guard⟩ = (do pure (.value (← Builtin.len_ c.argTypes ty (c.args.map ev))) : Sem Next) := by
        simp [execOp, resolve, hc, invoke, builtin]
      rw [this]
      refine .of ?_
      unfold Builtin.len_
      split at h <;> first | (cases h; done) | skip
      all_goals
        rename_i hu
        obtain ⟨t, ht, hu⟩ := Option.bind_eq_some_iff.1 hu
        simp only [ht]
        cases hx : (c.args.map ev)[0]? with
        | none => exact Mild.stuck _
        | some x =>
          refine .und_bind hu ?_
          cases x <;> first | exact Mild.pure _ | exact Mild.stuck _
    · cases h

end Go.Proofs.YtedemfmafdilmaaDoor.Ev
