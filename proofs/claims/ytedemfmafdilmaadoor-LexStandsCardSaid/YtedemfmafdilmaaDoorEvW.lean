/- Weakest preconditions over the evaluator's operations, told of the model itself: no fuel, and a call tells no more of memory than it has to. Conditions: none. -/
import Derived.Test.YtedemfmafdilmaaDoorEvV
import Derived.LoopN
namespace Go.Proofs.YtedemfmafdilmaaDoor.Ev

/-- A call comes to such an answer and such blocks, in every world that the blocks fit. -/
def WD (T : Pg) (f : FuncId) (args : List Value) (H : Heap) (R : FRes → Heap → Prop) : Prop :=
  ∀ (ρ : Nat → Place) (w : World) (args' : Array Value), Rel T.G ρ H w → VL H.length ρ args args'.toList →
    (∃ v', (callFunc f args').run T.P w = .ok (.value v') w ∧ ∃ r H1, R r H1 ∧ RetOK T.G ρ H w r H1 (.returned v') w) ∨
    ((callFunc f args').run T.P w = .ok (.enter f args') w ∧ Calls T.P f args' w (fun en w' => ∃ r H1, R r H1 ∧ RetOK T.G ρ H w r H1 en w'))

abbrev Post := AExit → Env → Heap → Prop

/-- What becomes of a call's answer. -/
def callK (next : Env → Heap → Post → Prop) (d : Option Nat) (e : Env) (Q : Post) : FRes → Heap → Prop := fun r H' =>
  match r with
  | .ret v => next (putO e d v) H' Q
  | .pan v => Q (.pan v) e H'

def WR (T : Pg) (next : Env → Heap → Post → Prop) (a : ARes) (d : Option Nat) (e : Env) (H : Heap) (Q : Post) : Prop :=
  match a with
  | .val v H' => next (putO e d v) H' Q
  | .skip H' => next (putO e d undef) H' Q
  | .call f args => WD T f args H (callK next d e Q)
  | .pan v => Q (.pan v) e H
  | .no => False

def WOps (T : Pg) : List AOper → Env → Heap → Post → Prop
  | [], e, H, Q => Q .norm e H
  | o :: rest, e, H, Q =>
    match wantedA e o.guard with
    | none => False
    | some false => WOps T rest (putO e o.dst undef) H Q
    | some true => if apartOK e H o.op o.chk = true then WR T (WOps T rest) (aop e H o.op) o.dst e H Q else False

def seqK (next : Env → Heap → Post → Prop) (Q : Post) : Post := fun r e H =>
  match r with
  | .norm => next e H Q
  | r => Q r e H

def blockK (id : Nat) (Q : Post) : Post := fun r e H =>
  match r with
  | .exit i => if i = id then Q .norm e H else Q (.exit i) e H
  | r => Q r e H

def WIf (v : Value) (A B : Prop) : Prop :=
  match v with
  | .bool true => A
  | .bool false => B
  | _ => False

/-- So many rounds at most. -/
def rds (body : Env → Heap → Post → Prop) : Nat → Env → Heap → Post → Prop
  | 0, _, _, _ => False
  | n + 1, e, H, Q => body e H (seqK (rds body n) Q)

def WC (T : Pg) : ACode → Env → Heap → Post → Prop
  | .skip, e, H, Q => Q .norm e H
  | .ops l, e, H, Q => WOps T l e H Q
  | .seq a b, e, H, Q => WC T a e H (seqK (WC T b) Q)
  | .cond c a b, e, H, Q => WIf (aev e c) (WC T a e H Q) (WC T b e H Q)
  | .block id c, e, H, Q => WC T c e H (blockK id Q)
  | .loop c, e, H, Q => ∃ n, rds (WC T c) n e H Q
  | .exit id, e, H, Q => Q (.exit id) e H
  | .ret, e, H, Q => Q .ret e H

def WLoop (T : Pg) (c : ACode) (e : Env) (H : Heap) (Q : Post) : Prop := ∃ n, rds (WC T c) n e H Q

theorem WD.mono {T : Pg} {f : FuncId} {args : List Value} {H : Heap} {R S : FRes → Heap → Prop} (h : WD T f args H R) (hs : ∀ r H', R r H' → S r H') : WD T f args H S := by
  intro ρ w args' hr ha
  rcases h ρ w args' hr ha with ⟨v', h1, r, H1, h2, h3⟩ | ⟨h1, h2⟩
  · exact .inl ⟨v', h1, r, H1, hs _ _ h2, h3⟩
  · exact .inr ⟨h1, h2.mono fun en w' ⟨r, H1, h3, h4⟩ => ⟨r, H1, hs _ _ h3, h4⟩⟩

theorem callK_mono {n m : Env → Heap → Post → Prop} {d : Option Nat} {e : Env} {Q S : Post} (h1 : ∀ e H, n e H Q → m e H S) (h2 : ∀ r e H, Q r e H → S r e H) (r : FRes) (H : Heap) : callK n d e Q r H → callK m d e S r H := by
  cases r with
  | ret v => exact h1 _ _
  | pan v => exact h2 _ _ _

theorem WOps.mono {T : Pg} : ∀ {l : List AOper} {e : Env} {H : Heap} {Q S : Post}, WOps T l e H Q → (∀ r e' H', Q r e' H' → S r e' H') → WOps T l e H S
  | [], e, H, Q, S, h, hs => hs _ _ _ h
  | o :: rest, e, H, Q, S, h, hs => by
    simp only [WOps] at h ⊢
    split at h
    · exact h.elim
    · exact WOps.mono h hs
    · split at h
      · rename_i ha
        rw [if_pos ha]
        unfold WR at h ⊢
        split at h
        · exact WOps.mono h hs
        · exact WOps.mono h hs
        · exact WD.mono h (callK_mono (fun e H h => WOps.mono h hs) hs)
        · exact hs _ _ _ h
        · exact h.elim
      · exact h.elim

theorem seqK_mono {n m : Env → Heap → Post → Prop} {Q S : Post} (h1 : ∀ e H, n e H Q → m e H S) (h2 : ∀ r e H, Q r e H → S r e H) (r : AExit) (e : Env) (H : Heap) : seqK n Q r e H → seqK m S r e H := by
  cases r with
  | norm => exact h1 _ _
  | exit i => exact h2 _ _ _
  | ret => exact h2 _ _ _
  | pan v => exact h2 _ _ _

theorem blockK_mono {id : Nat} {Q S : Post} (h2 : ∀ r e H, Q r e H → S r e H) (r : AExit) (e : Env) (H : Heap) : blockK id Q r e H → blockK id S r e H := by
  cases r with
  | norm => exact h2 _ _ _
  | exit i =>
    simp only [blockK]
    split
    · exact h2 _ _ _
    · exact h2 _ _ _
  | ret => exact h2 _ _ _
  | pan v => exact h2 _ _ _

theorem rds_mono {body : Env → Heap → Post → Prop} (hb : ∀ {e H Q S}, body e H Q → (∀ r e' H', Q r e' H' → S r e' H') → body e H S) :
    ∀ (n m : Nat) (e : Env) (H : Heap) (Q S : Post), n ≤ m → rds body n e H Q → (∀ r e' H', Q r e' H' → S r e' H') → rds body m e H S := by
  intro n
  induction n with
  | zero => intro m e H Q S _ h; exact h.elim
  | succ n ih =>
    intro m e H Q S hm h hs
    obtain ⟨m, rfl⟩ : ∃ k, m = k + 1 := ⟨m - 1, by omega⟩
    exact hb h (seqK_mono (fun e H h => ih m e H Q S (by omega) h hs) hs)

theorem WC.mono {T : Pg} : ∀ {c : ACode} {e : Env} {H : Heap} {Q S : Post}, WC T c e H Q → (∀ r e' H', Q r e' H' → S r e' H') → WC T c e H S := by
  intro c
  induction c with
  | skip => intro e H Q S h hs; exact hs _ _ _ h
  | ops l => intro e H Q S h hs; exact WOps.mono (l := l) h hs
  | seq a b iha ihb => intro e H Q S h hs; exact iha h (seqK_mono (fun e H h => ihb h hs) hs)
  | cond c a b iha ihb =>
    intro e H Q S h hs
    simp only [WC] at h ⊢
    unfold WIf at h ⊢
    split at h
    · exact iha h hs
    · exact ihb h hs
    · exact h.elim
  | block id c ih => intro e H Q S h hs; exact ih h (blockK_mono hs)
  | loop c ih =>
    intro e H Q S h hs
    obtain ⟨n, h⟩ := h
    exact ⟨n, rds_mono (body := WC T c) (fun h hs => ih h hs) n n e H Q S (Nat.le_refl _) h hs⟩
  | exit id => intro e H Q S h hs; exact hs _ _ _ h
  | ret => intro e H Q S h hs; exact hs _ _ _ h

/-- A loop with an invariant and a number that falls. -/
theorem WLoop.inv {T : Pg} {c : ACode} {Q : Post} (I : Nat → Env → Heap → Prop) (hstep : ∀ n e H, I n e H → WC T c e H (seqK (fun e' H' _ => ∃ m, m < n ∧ I m e' H') Q)) :
    ∀ n e H, I n e H → WLoop T c e H Q := by
  have key : ∀ n e H, I n e H → rds (WC T c) (n + 1) e H Q := by
    intro n
    induction n using Nat.strongRecOn with
    | ind n ih =>
      intro e H hI
      refine WC.mono (hstep n e H hI) (seqK_mono (fun e H h => ?_) (fun _ _ _ h => h))
      obtain ⟨m, hm, hI2⟩ := h
      exact rds_mono (body := WC T c) (fun h hs => WC.mono h hs) (m + 1) n e H Q Q (by omega) (ih m hm e H hI2) (fun _ _ _ h => h)
  exact fun n e H hI => ⟨n + 1, key n e H hI⟩

theorem WLoop.step {T : Pg} {c : ACode} {e : Env} {H : Heap} {Q : Post} {n : Nat} (h : WC T c e H (seqK (rds (WC T c) n) Q)) : WLoop T c e H Q := ⟨n + 1, h⟩

/-! ### The model does no less -/

variable {T : Pg} {N : Nat} {ρ : Nat → Place} {ops : Array Oper}

/-- Such a state is come to. -/
def PostQ (T : Pg) (ρ : Nat → Place) (H : Heap) (w : World) (N : Nat) (ds : List Deferred) (Q : Post) : Exit → Act → World → Prop := fun ex a' w' =>
  ∃ r e' H', Q r e' H' ∧ PostOK T.G ρ H w N ds r e' H' ex a' w'

theorem PostQ.panic {H : Heap} {w : World} {ds : List Deferred} {Q : Post} {c : List PanicEntry} {a a' : Act} {w' : World} (h : PostQ T ρ H w N ds Q (.panic c) a w') (hd : a'.defers = a.defers) :
    PostQ T ρ H w N ds Q (.panic c) a' w' := by
  obtain ⟨r, e', H', h1, h2⟩ := h
  exact ⟨r, e', H', h1, h2.panic hd⟩

theorem PostQ.out {H : Heap} {w : World} {ds : List Deferred} {Q : Post} : ¬ LetsOut (PostQ T ρ H w N ds Q) := by
  rintro ⟨a, w', r, e', H', h1, h2⟩
  exact PostOK.out ⟨a, w', h2⟩

theorem op_stepW {o : Oper} {ao : AOper} {chk : List (Nat × Nat)} {rest : List AOper} {e : Env} {H : Heap} {q : Post} {a : Act} {w : World} {i : Nat} {Q : Exit → Act → World → Prop} {K : Act → World → Prop}
    (hp : prepOper T.P N T.G ops o chk = some ao) (hi : ops[i]? = some o) (hr : Rel T.G ρ H w) (hf : Fits T.G N H.length ρ e a) (hev : WOps T (ao :: rest) e H q)
    (hK : ∀ e1 H1 ρ1 a1 w1, WOps T rest e1 H1 q → Step T.G ρ H w ρ1 H1 w1 → Fits T.G N H1.length ρ1 e1 a1 → a1.defers = a.defers → K a1 w1)
    (hP : ∀ v v' e' H' ρ1 w1, q (.pan v) e' H' → Step T.G ρ H w ρ1 H' w1 → VR H'.length ρ1 v v' → Q (.panic [{ v := v', recovered := false }]) a w1) : wpOp T.P ops Q i K a w := by
  obtain ⟨hop, hdst, _, _⟩ := prepOper_op hp
  have hok := (op_ok (o := o) hop).1 e a H ρ w hr hf
  unfold wpOp
  simp only [hi]
  simp only [WOps] at hev
  split at hev
  · exact hev.elim
  · rename_i hw
    rw [wanted_ok hp hf hw]
    simp only [Bool.false_eq_true, if_false]
    rw [hdst] at hev
    exact hK _ _ ρ _ _ hev (Step.refl hr) (hf.put .undef) (put_defers _ _ _)
  · rename_i hw
    rw [wanted_ok hp hf hw]
    simp only [if_true]
    left
    split at hev
    case isFalse => exact hev.elim
    · rw [hdst] at hev
      unfold Oper.wp
      unfold WR at hev
      split at hev
      · rename_i v H1 ha
        obtain ⟨ρ1, v', w1, hrun, hs, hv⟩ := hok.1 v H1 ha
        rw [hrun]
        exact hK _ _ ρ1 _ _ hev hs ((hf.step hs).put hv) (put_defers _ _ _)
      · rename_i H1 ha
        obtain ⟨ρ1, w1, hrun, hs⟩ := hok.2.1 H1 ha
        rw [hrun]
        exact hK _ _ ρ1 _ _ hev hs ((hf.step hs).put .undef) (put_defers _ _ _)
      · rename_i f args ha
        obtain ⟨args', hrun, hvl⟩ := hok.2.2.1 f args ha
        rw [hrun]
        rcases hev ρ w args' hr hvl with ⟨v', hrun2, r, H1, hq, ρ1, hs, hres⟩ | ⟨hrun2, hcalls⟩
        · rw [hrun2]
          cases r with
          | ret v =>
            obtain ⟨v2, heq, hvr⟩ := hres
            cases heq
            exact hK _ _ ρ1 _ _ hq hs ((hf.step hs).put hvr) (put_defers _ _ _)
          | pan v =>
            obtain ⟨v2, heq, hvr⟩ := hres
            cases heq
        · rw [hrun2]
          refine Calls.mono hcalls fun en w1 hen => ?_
          obtain ⟨r, H1, hq, ρ1, hs, hres⟩ := hen
          cases r with
          | ret v =>
            obtain ⟨v', rfl, hvr⟩ := hres
            exact hK _ _ ρ1 _ _ hq hs ((hf.step hs).put hvr) (put_defers _ _ _)
          | pan v =>
            obtain ⟨v', rfl, hvr⟩ := hres
            exact hP _ _ _ _ ρ1 _ hq hs hvr
      · rename_i v ha
        obtain ⟨v', hrun, hvr⟩ := hok.2.2.2 v ha
        rw [hrun]
        exact hP _ _ _ _ ρ _ hev (Step.refl hr) hvr
      · exact hev.elim

theorem draw_soundW (hns : Region.noSelect ops = true) {ρ0 : Nat → Place} {H0 : Heap} {w0 : World} {ds : List Deferred} {Q : Post} :
    ∀ (l : List (Nat × List (Nat × Nat))) (listed : Array Bool) (al : List AOper) (e : Env) (H : Heap) (a : Act) (w : World) (ρ : Nat → Place),
      okOrder T.P ops (Region.before ops) l listed = true → Closed ops listed → prepOps T.P N T.G ops l = some al → Rel T.G ρ H w → Fits T.G N H.length ρ e a → Step T.G ρ0 H0 w0 ρ H w → a.defers = ds →
      WOps T al e H Q → wpAny T.P .any ops (PostQ T ρ0 H0 w0 N ds Q) l.length listed a w := by
  intro l
  induction l with
  | nil =>
    intro listed al e H a w ρ hok hc hp hr hf hs hd hev
    simp only [prepOps] at hp
    cases hp
    simp only [okOrder] at hok
    exact ⟨by simpa using hok, _, _, _, hev, ρ, hs, hd, rfl, hf.er⟩
  | cons p l ih =>
    intro listed al e H a w ρ hok hc hp hr hf hs hd hev
    obtain ⟨i, chk⟩ := p
    obtain ⟨o, ho, hok2, hcase⟩ := okOrder_cons hok
    obtain ⟨ao, am, hpo, hpm, rfl⟩ := prepOps_cons ho hp
    obtain ⟨hop, hdst, hchk, hchkN⟩ := prepOper_op hpo
    have hsel := Region.noSelect_spec hns
    have hQ : ∀ c a a' w, PostQ T ρ0 H0 w0 N ds Q (.panic c) a w → a'.defers = a.defers → PostQ T ρ0 H0 w0 N ds Q (.panic c) a' w := fun c a a' w h hd => h.panic hd
    rcases hcase with ⟨hst, hready, hfree, hchkL, hchkN2⟩ | ⟨hst, hready, hchk0⟩
    · -- still
      have hnext := closed_list hc hready
      have pure_case : ∀ v v', wantedA e ao.guard = some true ∨ wantedA e ao.guard = some false → VR H.length ρ v v' → Yields T.P ops o v' a → WOps T am (putO e ao.dst v) H Q →
          wpAny T.P .any ops (PostQ T ρ0 H0 w0 N ds Q) (l.length + 1) listed a w := by
        intro v v' _ hvr hy hev2
        refine wpAny_first ho hsel (fun c a1 w1 h => hQ c _ _ w1 h (by simp [put_defers])) l.length listed a w (fun j oj hj hne hun hno => Region.free_spec ho hfree j oj hj hne hun hno) hready hy ?_
        rw [hdst] at hev2
        exact ih _ am _ H _ w ρ hok2 hnext hpm hr (hf.put hvr) hs (by rw [put_defers]; exact hd) hev2
      simp only [WOps] at hev
      split at hev
      · exact hev.elim
      · rename_i hw
        refine pure_case undef undef (.inr hw) .undef (.inr ⟨wanted_ok hpo hf hw, rfl⟩) hev
      · rename_i hw
        split at hev
        case isFalse => exact hev.elim
        · rename_i hapart
          have hapart' : apartOK e H ao.op ao.chk = true := hapart
          rcases (op_ok (o := o) hop).2.2 hst e H with ⟨v, H1, hv⟩ | hv
          · rw [hv] at hev
            simp only [WR] at hev
            cases hl : isLoad o.op with
            | false =>
              obtain ⟨rfl, v', hvr, hsay⟩ := (op_ok (o := o) hop).2.1 hst hl H.length ρ e a H H1 v hf hv
              exact pure_case v v' (.inl hw) hvr (.inl ⟨wanted_ok hpo hf hw, hsay⟩) hev
            | true =>
              obtain ⟨dj, opj, tyj, posj, afj, guj⟩ := o
              cases opj <;> simp only [isLoad] at hl <;> first | (cases hl; done) | skip
              rename_i t x
              obtain ⟨rfl, b, oo, m, v', hshape, hx, hbn, hlive, hvr, hreads⟩ := reads_ok (dst := dj) (ty := tyj) (pos := posj) (after := afj) (guard := guj) hop hr hf hv
              have hch := hchkL rfl
              obtain ⟨hk1, hk2⟩ := chkOf_ok _ _ hch
              rw [hchk] at hapart'
              have haway : ∀ c ∈ chk, ∃ q, a.tmps.getD c.1 undef = .pointer (some q) ∧ Away w ⟨(ρ b).blk, (ρ b).off + oo, none⟩ m q c.2 := fun c hcm =>
                away_ok hr hf (hchkN c hcm) (apartOK_mem hshape hx chk hapart' c hcm)
              have hunw : ∀ c ∈ chk, ∀ (k : Nat) (ok : Oper), ops[k]? = some ok → listed.getD k true = false → ok.dst ≠ some c.1 := fun c hcm k ok hk hun => by
                have h9 := hk2 c hcm
                simp only [unwritten, List.all_eq_true, List.mem_range] at h9
                have := h9 k (Array.getElem?_eq_some_iff.1 hk).1
                simpa [hk, hun] using this
              let C : Act → World → Prop := fun a' w' => (execOp a'.eval ⟨dj, .load t x, tyj, posj, afj, guj⟩ = execOp a.eval ⟨dj, .load t x, tyj, posj, afj, guj⟩ ∧ Region.wanted ⟨dj, .load t x, tyj, posj, afj, guj⟩ (yielded ops a'.tmps) = true) ∧
                (∀ k, k < m → w'.cell? ((⟨(ρ b).blk, (ρ b).off + oo, none⟩ : Addr).add k) = w.cell? ((⟨(ρ b).blk, (ρ b).off + oo, none⟩ : Addr).add k)) ∧ (∀ k, k < m → (w.cell? ((⟨(ρ b).blk, (ρ b).off + oo, none⟩ : Addr).add k)).isSome = true) ∧
                (∀ c ∈ chk, ∃ q, a'.tmps.getD c.1 undef = .pointer (some q) ∧ Away w' ⟨(ρ b).blk, (ρ b).off + oo, none⟩ m q c.2)
              let U : Nat → Prop := fun j => ∃ oj, ops[j]? = some oj ∧ (Oper.apart ops ⟨dj, .load t x, tyj, posj, afj, guj⟩ oj = true) ∧ (∀ c ∈ chk, oj.dst ≠ some c.1) ∧
                (stillOp T.P oj.op = true ∨ ∃ t ta xv k, oj.op = .store t (.tmp ta) xv ∧ szOf T.P t = some k ∧ (ta, k) ∈ chk)
              refine wpAny_firstC (oi := ⟨dj, .load t x, tyj, posj, afj, guj⟩) (v := v') C U ?_ ?_ l.length listed a w hc ?_ hready ?_ ?_
              · rintro a' w' ⟨⟨g1, g2⟩, g3, g4, g5⟩ K hK
                unfold wpOp
                simp only [ho, g2, if_true]
                left
                unfold Oper.wp
                rw [g1, hreads.same w' g3]
                exact hK
              · rintro j ⟨oj, hj, q1, q2, q3⟩ a' w' K hC hh
                exact load_pass (a0 := a) (w0 := w) hQ PostQ.out (fun cs b => by simp) hj (fun cs b => hsel j oj cs b hj) q1 q2 q3 a' w' K hC hh
              · intro j oj hj hne hun hb hd'
                exact ⟨oj, hj, Region.free_spec ho hfree j oj hj hne hun hd', fun c hcm => hunw c hcm j oj hj hun,
                  hk1 j (by simpa using (Array.getElem?_eq_some_iff.1 hj).1) hne hun hb oj hj⟩
              · exact ⟨⟨rfl, wanted_ok hpo hf hw⟩, fun k _ => rfl, hreads.there, haway⟩
              · rw [hdst] at hev
                exact ih _ am _ H1 _ w ρ hok2 hnext hpm hr (hf.put hvr) hs (by rw [put_defers]; exact hd) hev
          · rw [hv] at hev
            exact hev.elim
    · -- the only one that is ready
      have hmem : i ∈ Region.ready .any ops listed := by rw [hready]; simp
      refine ⟨fun h => (by rw [h] at hready; cases hready), fun j hj => ?_⟩
      rw [hready] at hj
      have : j = i := by simpa using hj
      subst this
      refine op_stepW hpo ho hr hf hev (fun e1 H1 ρ1 a1 w1 hev1 hs1 hf1 hd1 => ?_) (fun v v' e' H' ρ1 w1 hq hs1 hvr => ?_)
      · exact ih _ am e1 H1 a1 w1 ρ1 hok2 (closed_list hc hmem) hpm hs1.rel hf1 (hs.trans hs1) (hd1.trans hd) hev1
      · exact ⟨_, _, _, hq, ρ1, hs.trans hs1, hd, v', rfl, hvr⟩

theorem seq_soundW {ρ0 : Nat → Place} {H0 : Heap} {w0 : World} {ds : List Deferred} {Q : Post} :
    ∀ (l : List Nat) (al : List AOper) (e : Env) (H : Heap) (a : Act) (w : World) (ρ : Nat → Place),
      prepOps T.P N T.G ops (l.map fun i => (i, [])) = some al → (∀ i ∈ l, i < ops.size) → Rel T.G ρ H w → Fits T.G N H.length ρ e a → Step T.G ρ0 H0 w0 ρ H w → a.defers = ds →
      WOps T al e H Q → wpOps T.P ops (PostQ T ρ0 H0 w0 N ds Q) l a w := by
  intro l
  induction l with
  | nil =>
    intro al e H a w ρ hp _ hr hf hs hd hev
    simp only [List.map_nil, prepOps] at hp
    cases hp
    exact ⟨_, _, _, hev, ρ, hs, hd, rfl, hf.er⟩
  | cons i l ih =>
    intro al e H a w ρ hp hl hr hf hs hd hev
    have hi : i < ops.size := hl i (by simp)
    have ho : ops[i]? = some ops[i] := by simp [hi]
    rw [List.map_cons] at hp
    obtain ⟨ao, am, hpo, hpm, rfl⟩ := prepOps_cons ho hp
    rw [wpOps_cons]
    refine op_stepW hpo ho hr hf hev (fun e1 H1 ρ1 a1 w1 hev1 hs1 hf1 hd1 => ?_) (fun v v' e' H' ρ1 w1 hq hs1 hvr => ?_)
    · exact ih am e1 H1 a1 w1 ρ1 hpm (fun j hj => hl j (by simp [hj])) hs1.rel hf1 (hs.trans hs1) (hd1.trans hd) hev1
    · exact ⟨_, _, _, hq, ρ1, hs.trans hs1, hd, v', rfl, hvr⟩

theorem region_soundW (hm : T.P.follows .mixedOrders = true) {ρ0 : Nat → Place} {H0 : Heap} {w0 : World} {ds : List Deferred} {Q : Post} {id : Nat} {ops : Array Oper} {draw : Bool} {ac : ACode}
    (hp : prepRegion T.P N T.G ops draw = some ac) {e : Env} {H : Heap} {a : Act} {w : World} (hr : Rel T.G ρ H w) (hf : Fits T.G N H.length ρ e a) (hs : Step T.G ρ0 H0 w0 ρ H w) (hd : a.defers = ds)
    (hev : WC T ac e H Q) : (Code.region id ops draw).wp T.P (PostQ T ρ0 H0 w0 N ds Q) a w := by
  unfold prepRegion at hp
  split at hp
  · rename_i hdraw
    subst hdraw
    split at hp
    · rename_i hc
      obtain ⟨al, hal, rfl⟩ := Option.map_eq_some_iff.1 hp
      refine wp_region_any hm ?_
      have hw : Rel T.G ρ H { w with drawn := w.drawn + 1 } := hr.congr rfl
      have hh := draw_soundW hc.2.1 _ _ al e H a _ ρ hc.2.2 (closed_start ops) hal hw hf (hs.trans (Step.drawn hr rfl rfl rfl rfl)) hd hev
      rw [hc.1] at hh
      exact hh
    · cases hp
  · rename_i hdraw
    have : draw = false := by simpa using hdraw
    subst this
    obtain ⟨al, hal, rfl⟩ := Option.map_eq_some_iff.1 hp
    exact wp_region (seq_soundW _ al e H a w ρ hal (fun i hi => by simpa using hi) hr hf hs hd hev)

theorem code_soundW (hm : T.P.follows .mixedOrders = true) {ρ0 : Nat → Place} {H0 : Heap} {w0 : World} {ds : List Deferred} :
    ∀ (c : Code) (ac : ACode), prepCode T.P N T.G c = some ac → ∀ (e : Env) (H : Heap) (a : Act) (w : World) (ρ : Nat → Place) (Q : Post),
      Rel T.G ρ H w → Fits T.G N H.length ρ e a → Step T.G ρ0 H0 w0 ρ H w → a.defers = ds → WC T ac e H Q → c.wp T.P (PostQ T ρ0 H0 w0 N ds Q) a w := by
  have again : ∀ {e : Env} {H : Heap} {ρ : Nat → Place} {a : Act} {w : World}, Step T.G ρ0 H0 w0 ρ H w → ER H.length ρ N e a.tmps → Rel T.G ρ H w ∧ Fits T.G N H.length ρ e a := fun hs he =>
    ⟨hs.rel, he, hs.rel.many, hs.rel.glob⟩
  intro c
  induction c with
  | skip =>
    intro ac hp e H a w ρ Q hr hf hs hd hev
    simp only [prepCode] at hp; cases hp
    exact wp_skip ⟨_, _, _, hev, ρ, hs, hd, rfl, hf.er⟩
  | region id ops draw =>
    intro ac hp e H a w ρ Q hr hf hs hd hev
    simp only [prepCode] at hp
    exact region_soundW hm hp hr hf hs hd hev
  | seq x y ihx ihy =>
    intro ac hp e H a w ρ Q hr hf hs hd hev
    simp only [prepCode] at hp
    split at hp
    · rename_i ax ay hx hy
      cases hp
      refine wp_seq ?_
      refine wp_mono (ihx ax hx e H a w ρ _ hr hf hs hd hev) fun ex a1 w1 hq => ?_
      obtain ⟨r, e1, H1, hq, ρ1, hs1, hd1, her⟩ := hq
      cases r with
      | norm =>
        obtain ⟨rfl, her⟩ := her
        obtain ⟨hr1, hf1⟩ := again hs1 her
        exact ihy ay hy e1 H1 a1 w1 ρ1 Q hr1 hf1 hs1 hd1 hq
      | exit i => obtain ⟨rfl, her⟩ := her; exact ⟨_, _, _, hq, ρ1, hs1, hd1, rfl, her⟩
      | ret => obtain ⟨rfl, her⟩ := her; exact ⟨_, _, _, hq, ρ1, hs1, hd1, rfl, her⟩
      | pan v => obtain ⟨v', rfl, her⟩ := her; exact ⟨_, _, _, hq, ρ1, hs1, hd1, v', rfl, her⟩
    · cases hp
  | cond c x y ihx ihy =>
    intro ac hp e H a w ρ Q hr hf hs hd hev
    simp only [prepCode] at hp
    split at hp
    · rename_i hc
      split at hp
      · rename_i ax ay hx hy
        cases hp
        simp only [WC] at hev
        have h1 := hf.op hc
        unfold WIf at hev
        split at hev
        · rename_i hb
          rw [hb] at h1
          exact wp_cond_true h1.inv_bool (ihx ax hx e H a w ρ Q hr hf hs hd hev)
        · rename_i hb
          rw [hb] at h1
          exact wp_cond_false h1.inv_bool (ihy ay hy e H a w ρ Q hr hf hs hd hev)
        · exact hev.elim
      · cases hp
    · cases hp
  | block id c ih =>
    intro ac hp e H a w ρ Q hr hf hs hd hev
    simp only [prepCode] at hp
    obtain ⟨ax, hx, rfl⟩ := Option.map_eq_some_iff.1 hp
    refine wp_block ?_
    refine wp_mono (ih ax hx e H a w ρ _ hr hf hs hd hev) fun ex a1 w1 hq => ?_
    obtain ⟨r, e1, H1, hq, ρ1, hs1, hd1, her⟩ := hq
    cases r with
    | norm => obtain ⟨rfl, her⟩ := her; exact ⟨_, _, _, hq, ρ1, hs1, hd1, rfl, her⟩
    | exit i =>
      obtain ⟨rfl, her⟩ := her
      simp only [blockK] at hq
      split at hq
      · rename_i hi
        simp only [Exit.inBlock, hi, if_true]
        exact ⟨_, _, _, hq, ρ1, hs1, hd1, rfl, her⟩
      · rename_i hi
        simp only [Exit.inBlock, hi, if_false]
        exact ⟨_, _, _, hq, ρ1, hs1, hd1, rfl, her⟩
    | ret => obtain ⟨rfl, her⟩ := her; exact ⟨_, _, _, hq, ρ1, hs1, hd1, rfl, her⟩
    | pan v => obtain ⟨v', rfl, her⟩ := her; exact ⟨_, _, _, hq, ρ1, hs1, hd1, v', rfl, her⟩
  | loop c ih =>
    intro ac hp e H a w ρ Q hr hf hs hd hev
    simp only [prepCode] at hp
    obtain ⟨ax, hx, rfl⟩ := Option.map_eq_some_iff.1 hp
    have key : ∀ (n : Nat) (e : Env) (H : Heap) (a : Act) (w : World) (ρ : Nat → Place), Rel T.G ρ H w → Fits T.G N H.length ρ e a → Step T.G ρ0 H0 w0 ρ H w → a.defers = ds →
        rds (WC T ax) n e H Q → Code.rounds T.P c (PostQ T ρ0 H0 w0 N ds Q) n a w := by
      intro n
      induction n with
      | zero => intro e H a w ρ _ _ _ _ h; exact h.elim
      | succ n ihn =>
        intro e H a w ρ hr hf hs hd h
        rw [rounds_succ]
        refine wp_mono (ih ax hx e H a w ρ _ hr hf hs hd h) fun ex a1 w1 hq => ?_
        obtain ⟨r, e1, H1, hq, ρ1, hs1, hd1, her⟩ := hq
        cases r with
        | norm =>
          obtain ⟨rfl, her⟩ := her
          obtain ⟨hr1, hf1⟩ := again hs1 her
          exact ihn e1 H1 a1 w1 ρ1 hr1 hf1 hs1 hd1 hq
        | exit i => obtain ⟨rfl, her⟩ := her; exact ⟨_, _, _, hq, ρ1, hs1, hd1, rfl, her⟩
        | ret => obtain ⟨rfl, her⟩ := her; exact ⟨_, _, _, hq, ρ1, hs1, hd1, rfl, her⟩
        | pan v => obtain ⟨v', rfl, her⟩ := her; exact ⟨_, _, _, hq, ρ1, hs1, hd1, v', rfl, her⟩
    obtain ⟨n, hev⟩ := hev
    exact wp_loop_rounds n (key n e H a w ρ hr hf hs hd hev)
  | exit id =>
    intro ac hp e H a w ρ Q hr hf hs hd hev
    simp only [prepCode] at hp; cases hp
    exact wp_exit ⟨_, _, _, hev, ρ, hs, hd, rfl, hf.er⟩
  | ret =>
    intro ac hp e H a w ρ Q hr hf hs hd hev
    simp only [prepCode] at hp; cases hp
    exact wp_ret ⟨_, _, _, hev, ρ, hs, hd, rfl, hf.er⟩
  | rangeFunc f ps x y => intro ac hp; simp only [prepCode] at hp; cases hp
  | scope c => intro ac hp; simp only [prepCode] at hp; cases hp
  | label l => intro ac hp; simp only [prepCode] at hp; cases hp
  | goto l => intro ac hp; simp only [prepCode] at hp; cases hp
  | refuse s => intro ac hp; simp only [prepCode] at hp; cases hp

def retK (res : List AResult) (R : FRes → Heap → Prop) : Post := fun r e H =>
  match r with
  | .norm | .ret => match resultsL e H res with
    | some vs => R (.ret (pack vs)) H
    | none => False
  | .pan v => R (.pan v) H
  | .exit _ => False

theorem WD.of (hm : T.P.follows .mixedOrders = true) {f : FuncId} {n : Nat} {body : ACode} {res : List AResult} (hT : Laid T f (.code n body res)) {args : List Value} (hl : args.length ≤ n) {H : Heap} {R : FRes → Heap → Prop}
    (h : WC T body (pad n args) H (retK res R)) : WD T f args H R := by
  intro ρ w args' hr hvl
  right
  obtain ⟨fn, hfn, hprep⟩ := hT
  unfold prepFn at hprep
  split at hprep
  · cases hprep
  · rename_i c hbody
    split at hprep
    · cases hprep
    · rename_i hname
      split at hprep
      · rename_i b r hb hres
        cases hprep
        refine ⟨?_, ?_⟩
        · have hn2 : (fn.name == "runtime.NumGoroutine") = false := by simpa using hname
          unfold callFunc
          simp only [Sem.run_bind, run_program, Result.andThen_ok, hfn, hn2, Bool.false_eq_true, if_false, hbody, Option.isNone_some, Sem.run_pure]
        · refine calls_of_wp hfn hbody ?_
          have hsz : args'.size = args.length := by have := hvl.1; simpa using this.symm
          have hfit : Fits T.G fn.ntmps H.length ρ (pad fn.ntmps args) { tmps := args' ++ Array.replicate (fn.ntmps - args'.size) undef, defers := [] } := by
            refine ⟨⟨by simp; omega, fun i hi => ?_⟩, hr.many, hr.glob⟩
            rw [get_pad, get_eq]
            have e1 : (args' ++ Array.replicate (fn.ntmps - args'.size) undef).getD i undef = args'.toList.getD i undef := by
              simp only [Array.getD_eq_getD_getElem?, List.getD_eq_getElem?_getD, Array.getElem?_append, Array.getElem?_toList]
              split
              · rfl
              · rename_i hge
                rw [Array.getElem?_replicate, Array.getElem?_eq_none (xs := args') (by omega)]
                split <;> rfl
            rw [e1]
            exact hvl.getD i
          refine wp_mono (code_soundW hm c body hb (pad fn.ntmps args) H _ w ρ _ hr hfit (Step.refl hr) rfl h) fun ex a1 w1 hq => ?_
          obtain ⟨r, e1, H1, hq, ρ1, hs1, hd1, her⟩ := hq
          cases r with
          | norm =>
            obtain ⟨rfl, her⟩ := her
            simp only [retK] at hq
            split at hq
            · rename_i vs hvs
              obtain ⟨vs', hvl', hrun⟩ := run_results hs1.rel her hres hvs
              exact ⟨hd1, _, hrun, _, _, hq, ρ1, hs1, _, rfl, pack_sound hvl'⟩
            · exact hq.elim
          | ret =>
            obtain ⟨rfl, her⟩ := her
            simp only [retK] at hq
            split at hq
            · rename_i vs hvs
              obtain ⟨vs', hvl', hrun⟩ := run_results hs1.rel her hres hvs
              exact ⟨hd1, _, hrun, _, _, hq, ρ1, hs1, _, rfl, pack_sound hvl'⟩
            · exact hq.elim
          | pan v =>
            obtain ⟨v', rfl, hvr⟩ := her
            exact ⟨hd1, _, _, hq, ρ1, hs1, v', rfl, hvr⟩
          | exit i => exact hq.elim
      · cases hprep

/-- What the evaluator answers. -/
theorem WD.ev {Tab : Table} (hm : T.P.follows .mixedOrders = true) (hT : TableOK T.P T.G Tab) {k : Nat} {f : FuncId} {args : List Value} {H H1 : Heap} {r : FRes} {R : FRes → Heap → Prop}
    (h : evalFn Tab k f args H = some (r, H1)) (hR : R r H1) : WD T f args H R := by
  intro ρ w args' hr ha
  rcases fn_sound hm hT k f args H r H1 h ρ w args' hr ha with ⟨v, v', rfl, rfl, h2, h3⟩ | ⟨h1, h2⟩
  · exact .inl ⟨v', h2, _, _, hR, ρ, Step.refl hr, v', rfl, h3⟩
  · exact .inr ⟨h1, h2.mono fun en w' h3 => ⟨r, H1, hR, h3⟩⟩

/-- A function without a body. -/
theorem WD.ext {Tab : Table} (hT : TableOK T.P T.G Tab) {f : FuncId} {g : List Value → Option Value} (hf : Tab f = some (.ext g)) {args : List Value} {v : Value} (hv : g args = some v) {H : Heap} {R : FRes → Heap → Prop} (hR : R (.ret v) H) : WD T f args H R := by
  intro ρ w args' hr ha
  obtain ⟨h1, h2⟩ := hT f _ hf args v hv
  exact .inl ⟨v, h2 _ ρ args' ha w, _, _, hR, ρ, Step.refl hr, v, rfl, .of_closed h1⟩

end Go.Proofs.YtedemfmafdilmaaDoor.Ev
