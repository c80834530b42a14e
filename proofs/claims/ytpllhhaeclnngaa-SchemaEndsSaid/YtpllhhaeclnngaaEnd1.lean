/- Parts of the proof: EvS, EvT, EvU, EvV, EvW0, EvW1, EvW2, EvW2b, EvW3, EvW, EvWd, EvWe, EvX, EvY, EvK0, EvK1, EvZ, EvExt. Conditions: none. -/
import Derived.Test.YtpllhhaeclnngaaEnd0
import Derived.LoopN
import Derived.Below
import Derived.LoopNIn
import Derived.OrdersIn
import Derived.RangeFuncIn
import Derived.RangeFuncLeaves
import Derived.RangeFuncRecord
import Derived.RecoverIn
import Derived.KernelRfl
import Derived.Laws.Externs
namespace Go.Proofs.Ytpllhhaeclnngaa.Ev
set_option maxRecDepth 100000
set_option linter.unusedSimpArgs false
set_option linter.unusedVariables false
section
variable {P : Program} {N G : Nat} {ρ : Nat → Place} {ops : Array Oper}
/-- What a load reads. -/
structure Reads (P : Program) (o : Oper) (ev : Operand → Value) (w : World) (p : Addr) (m : Nat) (v : Value) : Prop where
 same : ∀ w', (∀ k, k < m → w'.cell? (p.add k) = w.cell? (p.add k)) → (execOp ev o).run P w' = .ok (.value v) w'
 there : ∀ k, k < m → (w.cell? (p.add k)).isSome = true
theorem reads_ok {dst : Option Nat} {t : TypeId} {x : Operand} {ty : TypeId} {pos : String} {after : Array Edge} {guard : Option (Nat × Bool)} {ao : AOp} {e : Env} {a : Act} {H H' : Heap} {w : World} {v : Value}
  (hp : prepOp P N G (.load t x) = some ao) (hr : Rel G ρ H w) (hf : Fits G N H.length ρ e a) (h : aop e H ao = .val v H') :
  H' = H ∧ ∃ (b o m : Nat) (v' : Value), (ao = .load1 x ∧ m = 1 ∨ ao = .loadN m x) ∧ aev e x = .pointer (some ⟨b, o, none⟩) ∧ b < H.length ∧ (hget H b).live = true ∧ VR H.length ρ v v' ∧
   Reads P ⟨dst, .load t x, ty, pos, after, guard⟩ a.eval w ⟨(ρ b).blk, (ρ b).off + o, none⟩ m v' := by
 simp only [prepOp] at hp
 split at hp
 ·rename_i hx
  have h1 := hf.op hx
  split at hp
  ·rename_i m ha hs
   cases hp
   simp only [aop] at h
   split at h
   ·rename_i b o hb
    split at h
    ·rename_i cs u wr hrow
     split at h
     ·rename_i hle
      simp only [ARes.val.injEq] at h
      obtain ⟨rfl, rfl⟩ := h
      have hbx := hb
      rw [hb] at h1
      obtain ⟨hbn, hv⟩ := h1.inv_ptr
      obtain ⟨cells, t', fr, hh, hc, _⟩ := hr.obj b _ (hget_some hrow rfl)
      obtain ⟨hvl, hlen, hrun⟩ := row_list hh hc hle
      refine ⟨rfl, b, o, m, _, .inr rfl, hbx, hbn, by rw [hrow]; rfl, hvl.agg, ?_, ?_⟩
      ·intro w' hw'
       have hcell : ∀ j v, ((cells.toList.drop ((ρ b).off + o)).take m)[j]? = some v → w'.cell? ((⟨(ρ b).blk, (ρ b).off + o, none⟩ : Addr).add j) = some v := fun j v hj => by
        have hjm : j < m := by
         have := (List.getElem?_eq_some_iff.1 hj).1
         rw [hlen] at this; exact this
        rw [hw' j hjm, add_spot, cell_of hh]
        rw [List.getElem?_take, if_pos hjm, List.getElem?_drop] at hj
        simpa using hj
       have := run_loadCells_list (P := P) w' ⟨(ρ b).blk, (ρ b).off + o, none⟩ _ hcell
       rw [hlen] at this
       simp [execOp, Instr.loadAt, hv, Instr.sureAddr, loadVar, run_agg ha, run_size hs, this]
      ·intro k hk
       rw [add_spot, cell_of hh]
       obtain ⟨v', hv', _⟩ := hc (o + k) _ (List.getElem?_eq_getElem (by omega))
       rw [Nat.add_assoc, hv']; rfl
     ·cases h
    ·cases h
   ·cases h
  ·rename_i ha
   cases hp
   simp only [aop] at h
   split at h
   ·rename_i b o hb
    split at h
    ·rename_i cs u wr hrow
     obtain ⟨h3, rfl⟩ := ofO_val h
     have hbx := hb
     rw [hb] at h1
     obtain ⟨hbn, hv⟩ := h1.inv_ptr
     obtain ⟨cells, t', fr, hh, hc, _⟩ := hr.obj b _ (hget_some hrow rfl)
     obtain ⟨v', hv', hvr⟩ := hc o v h3
     refine ⟨rfl, b, o, 1, v', .inl ⟨rfl, rfl⟩, hbx, hbn, by rw [hrow]; rfl, hvr, ?_, ?_⟩
     ·intro w' hw'
      have := hw' 0 (by omega)
      rw [add_spot, Nat.add_zero, cell_of hh, hv'] at this
      simp [execOp, Instr.loadAt, hv, Instr.sureAddr, loadVar, run_agg ha, this]
     ·intro k hk
      have : k = 0 := by omega
      subst this
      rw [add_spot, cell_of hh, Nat.add_zero, hv']; rfl
    ·cases h
   ·cases h
  ·cases hp
 ·cases hp
/-- A place that a store is to write lies apart from what a load reads. -/
def Away (w : World) (p : Addr) (m : Nat) (q : Addr) (k : Nat) : Prop :=
 q.spot = none ∧ (∀ j, j < k → (w.cell? (q.add j)).isSome = true) ∧ ∀ i j, i < m → j < k → p.add i ≠ q.add j
theorem away_ok {e : Env} {a : Act} {H : Heap} {w : World} {b o m t k : Nat} (hr : Rel G ρ H w) (hf : Fits G N H.length ρ e a) (ht : t < N)
  (h : apart2 H (.pointer (some ⟨b, o, none⟩)) m (get e t) k = true) : ∃ q, a.tmps.getD t undef = .pointer (some q) ∧ Away w ⟨(ρ b).blk, (ρ b).off + o, none⟩ m q k := by
 unfold apart2 at h
 split at h
 ·rename_i b1 o1 c p hx hy
  cases hx
  simp only [Bool.and_eq_true] at h
  obtain ⟨h1, h2⟩ := h
  have hv := hf.er.2 t ht
  rw [hy] at hv
  refine ⟨_, hv.inv_ptr.2, rfl, ?_, ?_⟩
  ·intro j hj
   split at h1
   ·rename_i cs u hrow
    obtain ⟨cells, t', fr, hh, hc, _⟩ := hr.obj c _ (hget_some hrow rfl)
    have hle : p + k ≤ cs.length := by simpa using h1
    obtain ⟨v', hv', _⟩ := hc (p + j) _ (List.getElem?_eq_getElem (by omega))
    rw [add_spot, cell_of hh, Nat.add_assoc, hv']; rfl
   ·cases h1
  ·intro i j hi hj
   rw [add_spot, add_spot]
   split at h1
   ·rename_i cs u hrow
    split at h2
    ·rename_i hbc
     subst hbc
     intro heq
     injection heq with _ heq
     simp only [Bool.or_eq_true, decide_eq_true_eq] at h2
     omega
    ·rename_i hbc
     have hl : H[b]? = some (hget H b) := hget_some rfl h2
     have := hr.inj c b _ _ (hget_some hrow rfl) hl (fun e => hbc e.symm) rfl h2
     intro heq
     injection heq with heq
     exact this heq.symm
   ·cases h1
 ·cases h
/-- A run of stores leaves the other cells alone, and every cell there. -/
theorem stores_leave : ∀ (vs : List Value) (q : Addr) (i : Nat) (w w' : World), q.spot = none → (∀ j, j < vs.length → (w.cell? (q.add (i + j))).isSome = true) → (storeCells q vs i).run P w = .ok () w' →
  (∀ p : Addr, (∀ j, j < vs.length → p ≠ q.add (i + j)) → w'.cell? p = w.cell? p) ∧ ∀ p : Addr, (w.cell? p).isSome = true → (w'.cell? p).isSome = true := by
 intro vs
 induction vs with
 | nil => intro q i w w' _ _ h; simp only [storeCells, Sem.run_pure] at h; cases h; exact ⟨fun _ _ => rfl, fun _ h => h⟩
 | cons v vs ih =>
  intro q i w w' hq hs h
  simp only [storeCells, Sem.run_bind] at h
  have h0 := hs 0 (by simp)
  rw [Nat.add_zero] at h0
  cases hv : v.oneCell' with
  | false =>
   cases v <;> simp [Value.oneCell'] at hv <;> simp [store, Sem.run] at h
  | true =>
   rw [run_store P w _ v _ hv] at h
   obtain ⟨u, hu⟩ := Option.isSome_iff_exists.1 h0
   rw [hu] at h
   simp only at h
   split at h
   ·cases h
   ·simp only [Result.andThen_ok] at h
    have keep : ∀ p : Addr, (w.cell? p).isSome = true → ((w.setCell (q.add i) v).cell? p).isSome = true := fun p hp => by
     by_cases hpq : q.add i = p
     ·subst hpq
      rw [World.cell?_setCell_same _ _ _ hu]; rfl
     ·rw [World.cell?_setCell_other _ _ _ _ hpq]; exact hp
    obtain ⟨h1, h2⟩ := ih q (i + 1) _ w' hq (fun j hj => by
     have := hs (j + 1) (by simp; omega)
     rw [show i + 1 + j = i + (j + 1) by omega]
     exact keep _ this) h
    refine ⟨fun p hp => ?_, fun p hp => h2 p (keep p hp)⟩
    rw [h1 p (fun j hj => by have := hp (j + 1) (by simp; omega); rwa [show i + 1 + j = i + (j + 1) by omega])]
    exact World.cell?_setCell_other _ _ _ _ (fun e => hp 0 (by simp) (by rw [Nat.add_zero]; exact e.symm))
end
section
variable {P : Program} {N G : Nat} {ρ : Nat → Place} {ops : Array Oper}
theorem chkOf_ok {bef : Array Nat} {listed : Array Bool} {i : Nat} : ∀ (l : List Nat) (c : List (Nat × Nat)), chkOf P ops bef listed i l = some c →
    (∀ j ∈ l, j ≠ i → listed.getD j true = false → (bef.getD j 0).testBit i = false → ∀ o, ops[j]? = some o → (stillOp P o.op = true ∨ isAlloc3 P o.op = true ∨ isCallv o.op = true) ∨ ∃ t ta xv m, o.op = .store t (.tmp ta) xv ∧ szOf P t = some m ∧ (ta, m) ∈ c) ∧
    ∀ q ∈ c, unwritten ops listed q.1 = true := by
  intro l
  induction l with
  | nil => intro c h; simp only [chkOf] at h; cases h; exact ⟨fun j hj => (by cases hj), fun q hq => (by cases hq)⟩
  | cons j l ih =>
    intro c h
    simp only [chkOf] at h
    split at h
    · cases h
    · rename_i m hm
      obtain ⟨h1, h2⟩ := ih m hm
      split at h
      · rename_i hcond
        cases h
        refine ⟨fun k hk hki hun hb o ho => ?_, h2⟩
        rcases List.mem_cons.1 hk with rfl | hk
        · simp only [Bool.or_eq_true, beq_iff_eq] at hcond
          rcases hcond with (hcond | hcond) | hcond
          · exact absurd hcond hki
          · rw [hun] at hcond; cases hcond
          · rw [hb] at hcond; cases hcond
        · exact h1 k hk hki hun hb o ho
      · split at h
        · rename_i hn
          cases h
          refine ⟨fun k hk hki hun hb o ho => ?_, h2⟩
          rcases List.mem_cons.1 hk with rfl | hk
          · rw [hn] at ho; cases ho
          · exact h1 k hk hki hun hb o ho
        · rename_i o hoj
          split at h
          · rename_i hst
            cases h
            refine ⟨fun k hk hki hun hb o' ho => ?_, h2⟩
            rcases List.mem_cons.1 hk with rfl | hk
            · rw [hoj] at ho; cases ho; simp only [Bool.or_eq_true] at hst; exact .inl (by rcases hst with (h | h) | h <;> simp [h])
            · exact h1 k hk hki hun hb o' ho
          · split at h
            · rename_i t a xv hop
              split at h
              · rename_i hunw
                obtain ⟨n, hn, rfl⟩ := Option.map_eq_some_iff.1 h
                refine ⟨fun k hk hki hun hb o' ho => ?_, fun q hq => ?_⟩
                · rcases List.mem_cons.1 hk with rfl | hk
                  · rw [hoj] at ho; cases ho
                    exact .inr ⟨t, a, xv, n, hop, hn, by simp⟩
                  · rcases h1 k hk hki hun hb o' ho with h3 | ⟨t, ta, xv, m', h3, h4, h5⟩
                    · exact .inl h3
                    · exact .inr ⟨t, ta, xv, m', h3, h4, by simp [h5]⟩
                · rcases List.mem_cons.1 hq with rfl | hq
                  · exact hunw
                  · exact h2 q hq
              · cases h
            · cases h
theorem apartOK_mem {e : Env} {H : Heap} {op : AOp} {b o m : Nat} {x : Operand} (hop : op = .load1 x ∧ m = 1 ∨ op = .loadN m x) (hx : aev e x = .pointer (some ⟨b, o, none⟩)) :
    ∀ (l : List (Nat × Nat)), apartOK e H op l = true → ∀ q ∈ l, apart2 H (.pointer (some ⟨b, o, none⟩)) m (get e q.1) q.2 = true := by
  intro l
  induction l with
  | nil => intro _ q hq; cases hq
  | cons p l ih =>
    intro h q hq
    obtain ⟨t, k⟩ := p
    simp only [apartOK, Bool.and_eq_true] at h
    rcases List.mem_cons.1 hq with rfl | hq
    · have := h.1
      rcases hop with ⟨rfl, rfl⟩ | rfl
      · dsimp only at this; rw [hx] at this; exact this
      · dsimp only at this; rw [hx] at this; exact this
    · exact ih h.2 q hq
theorem okOrder_cons {bef : Array Nat} {i : Nat} {chk : List (Nat × Nat)} {l : List (Nat × List (Nat × Nat))} {listed : Array Bool} (h : okOrder P ops bef ((i, chk) :: l) listed = true) :
    ∃ o, ops[i]? = some o ∧ okOrder P ops bef l (listed.setIfInBounds i true) = true ∧ i ∈ Region.ready .any ops listed ∧
      (∀ j ∈ Region.ready .any ops listed, isAat ops j = true → ∀ k ∈ Region.ready .any ops listed, k ≠ j → (k = i ∨ isAat ops k = true) → ∀ oj ok, ops[j]? = some oj → ops[k]? = some ok → oj.apart ops ok = true) ∧
      ((stillOp P o.op = true ∧ Region.free .any ops listed i = true ∧ (isLoad o.op = true → chkOf P ops bef listed i (List.range ops.size) = some chk ∧ (flagged ops bef listed i = true → chk = [] ∧ ∃ t, loadAddr o.op = some t ∧ unwritten ops listed t = true)) ∧ (isLoad o.op = false → chk = [])) ∨
       (stillOp P o.op = false ∧ (∀ j ∈ Region.ready .any ops (listA ops listed i), j = i) ∧ (isCallv o.op = true → chk = callChk ops bef listed i) ∧ (isCallv o.op = false → chk = []))) := by
  simp only [okOrder, Bool.and_eq_true] at h
  obtain ⟨h1, h2⟩ := h
  split at h1
  · rename_i o ho
    simp only [Bool.and_eq_true] at h1
    obtain ⟨⟨g1, g2⟩, g3⟩ := h1
    refine ⟨o, ho, h2, by simpa using g1, fun j hj hA k hk hne hki oj ok hoj hok => ?_, ?_⟩
    · have h3 := List.all_eq_true.1 g2 j hj
      simp only [hA, Bool.not_true, Bool.false_or] at h3
      have h4 := List.all_eq_true.1 h3 k hk
      have h5 : (k == i || isAat ops k) = true := by rcases hki with rfl | h <;> simp [*]
      simpa [hne, h5, hoj, hok] using h4
    · split at g3
      · rename_i hst
        simp only [Bool.and_eq_true] at g3
        obtain ⟨g4, g5⟩ := g3
        refine .inl ⟨hst, g4, fun hl => ?_, fun hl => ?_⟩
        · rw [if_pos hl] at g5
          simp only [Bool.and_eq_true] at g5
          obtain ⟨g6, g7⟩ := g5
          constructor
          · split at g6
            · rename_i c hc
              rw [hc]
              simpa using g6
            · cases g6
          · intro hfl
            simp only [hfl, Bool.not_true, Bool.false_or, Bool.and_eq_true] at g7
            refine ⟨by simpa using g7.1, ?_⟩
            have g8 := g7.2
            split at g8
            · rename_i t ht; exact ⟨t, ht, g8⟩
            · cases g8
        · rw [if_neg (by simp [hl])] at g5
          simpa using g5
      · rename_i hst
        simp only [Bool.and_eq_true] at g3
        refine .inr ⟨by simpa using hst, fun j hj => ?_, fun hc => ?_, fun hc => ?_⟩
        · have := List.all_eq_true.1 g3.1 j hj
          simpa using this
        · have := g3.2
          rw [if_pos hc] at this
          have := (beq_iff_eq.1 this).symm
          exact this
        · have := g3.2
          rw [if_neg (by simp [hc])] at this
          simpa using this
  · cases h1
theorem prepOps_cons {i : Nat} {chk : List (Nat × Nat)} {l : List (Nat × List (Nat × Nat))} {al : List AOper} {o : Oper} (ho : ops[i]? = some o) (h : prepOps P N G ops ((i, chk) :: l) = some al) :
    ∃ ao am, prepOper P N G ops o chk = some ao ∧ prepOps P N G ops l = some am ∧ al = ao :: am := by
  simp only [prepOps, ho] at h
  split at h
  · rename_i a m ha hm
    cases h
    exact ⟨a, m, ha, hm, rfl⟩
  · cases h
end
section
variable {P : Program} {N G : Nat} {ρ : Nat → Place}
theorem as_addr (a : Addr) : asAddr (.pointer (some a)) = pure a := rfl
theorem results_sound {H : Heap} {w : World} {e : Env} {tmps : Array Value} {g : ResultVar → Sem Value} (hg1 : ∀ t, g (.tmp t) = pure (tmps.getD t undef)) (hg2 : ∀ a t, g (.cell a t) = (do loadVar t (← asAddr (tmps.getD a undef)))) {S : List Nat} (hr : Rel G ρ H w) (he : ∀ t ∈ S, VR H.length ρ (get e t) (tmps.getD t undef)) : ∀ (l : List ResultVar) (rs : List AResult) (vs : List Value), prepRes P N l = some rs → (∀ r ∈ rs, r.slot ∈ S) → resultsL e H rs = some vs →
  ∃ vs', VL H.length ρ vs vs' ∧ (l.mapM g : Sem (List Value)).run P w = .ok vs' w := by
 intro l
 induction l with
 | nil =>
  intro rs vs hp hS hv
  simp only [prepRes] at hp; cases hp
  simp only [resultsL] at hv; cases hv
  exact ⟨[], VL.nil, rfl⟩
 | cons x l ih =>
  intro rs vs hp hS hv
  cases x with
  | tmp t =>
   simp only [prepRes] at hp
   split at hp
   ·rename_i m hm
    split at hp
    ·rename_i ht
     cases hp
     simp only [resultsL, resultOf] at hv
     split at hv
     ·rename_i v vs1 hv1 hvs
      cases hv1
      cases hv
      obtain ⟨vs', hvl, hrun⟩ := ih m vs1 hm (fun r hr => hS r (by simp [hr])) hvs
      refine ⟨tmps.getD t undef :: vs', VL.cons (he t (hS (.tmp t) (by simp))) hvl, ?_⟩
      rw [List.mapM_cons, hg1]
      simp only [Sem.run_bind, Sem.run_pure, Result.andThen_ok, hrun]
     ·cases hv
    ·cases hp
   ·cases hp
  | cell a t =>
   simp only [prepRes] at hp
   split at hp
   ·rename_i m n hm hagg hsz
    split at hp
    ·rename_i ht
     cases hp
     simp only [resultsL, resultOf] at hv
     split at hv
     ·rename_i v vs1 hv1 hvs
      cases hv
      obtain ⟨vs', hvl, hrun⟩ := ih m vs1 hm (fun r hr => hS r (by simp [hr])) hvs
      have h1 := he a (hS (.cellN a n) (by simp))
      split at hv1
      ·rename_i b o hb
       rw [hb] at h1
       obtain ⟨hbn, hv2⟩ := h1.inv_ptr
       split at hv1
       ·rename_i cs u wr hrow
        split at hv1
        ·rename_i hle
         cases hv1
         obtain ⟨cells, t', fr, hh, hc, _⟩ := hr.obj b _ (hget_some hrow rfl)
         obtain ⟨hvl2, hlen, hload⟩ := row_list hh hc hle
         refine ⟨.agg ((cells.toList.drop ((ρ b).off + o)).take n).toArray :: vs', VL.cons hvl2.agg hvl, ?_⟩
         have hld := hload P w rfl
         have hlv : (loadVar t ⟨(ρ b).blk, (ρ b).off + o, none⟩).run P w = .ok (.agg ((cells.toList.drop ((ρ b).off + o)).take n).toArray) w := by
          unfold loadVar
          simp [run_agg hagg, run_size hsz, hld]
         rw [List.mapM_cons, hg2]
         simp only [Sem.run_bind, hv2, as_addr, Sem.run_pure, Result.andThen_ok, hlv, hrun]
        ·cases hv1
       ·cases hv1
      ·cases hv1
     ·cases hv
    ·cases hp
   ·rename_i m hm hagg
    split at hp
    ·rename_i ht
     cases hp
     simp only [resultsL, resultOf] at hv
     split at hv
     ·rename_i v vs1 hv1 hvs
      cases hv
      obtain ⟨vs', hvl, hrun⟩ := ih m vs1 hm (fun r hr => hS r (by simp [hr])) hvs
      have h1 := he a (hS (.cell1 a) (by simp))
      split at hv1
      ·rename_i b o hb
       rw [hb] at h1
       obtain ⟨hbn, hv2⟩ := h1.inv_ptr
       split at hv1
       ·rename_i cs u wr hrow
        obtain ⟨cells, t', fr, hh, hc, _⟩ := hr.obj b _ (hget_some hrow rfl)
        obtain ⟨v', hv', hvr⟩ := hc o v hv1
        refine ⟨v' :: vs', VL.cons hvr hvl, ?_⟩
        have hlv : (loadVar t ⟨(ρ b).blk, (ρ b).off + o, none⟩).run P w = .ok v' w := by
         unfold loadVar
         simp [run_agg hagg, cell_of hh, hv']
        rw [List.mapM_cons, hg2]
        simp only [Sem.run_bind, hv2, as_addr, Sem.run_pure, Result.andThen_ok, hlv, hrun]
       ·cases hv1
      ·cases hv1
     ·cases hv
    ·cases hp
   ·cases hp
theorem run_resultsK {H : Heap} {w : World} {e : Env} {tmps : Array Value} {fn : Func} {rs : List AResult} {vs : List Value} (hr : Rel G ρ H w) (he : ∀ t ∈ rs.map AResult.slot, VR H.length ρ (get e t) (tmps.getD t undef)) (hp : prepRes P N fn.results.toList = some rs) (hv : resultsL e H rs = some vs) :
  ∃ vs', VL H.length ρ vs vs' ∧ (results fn tmps).run P w = .ok (if h : vs'.toArray.size = 1 then vs'.toArray[0] else .tuple vs'.toArray) w := by
 unfold results
 generalize hg : (fun r : ResultVar => (match r with | .tmp t => pure (tmps.getD t undef) | .cell a t => do loadVar t (← asAddr (tmps.getD a undef)) : Sem Value)) = g
 obtain ⟨vs', hvl, hrun⟩ := results_sound (g := g) (S := rs.map AResult.slot) (fun t => by rw [← hg]) (fun a t => by rw [← hg]) hr he fn.results.toList rs vs hp (fun r h => List.mem_map.2 ⟨r, h, rfl⟩) hv
 refine ⟨vs', hvl, ?_⟩
 rw [Array.mapM_eq_mapM_toList]
 simp only [Sem.run_bind, Sem.run_map, hrun, Result.andThen_ok, Sem.run_pure]
theorem ER.any {n : Nat} {e : Env} {t : Array Value} (h : ER n ρ N e t) (i : Nat) : VR n ρ (get e i) (t.getD i undef) := by
 rcases Nat.lt_or_ge i N with q | q
 ·exact h.val i q
 ·rw [h.out i q, Array.getD_eq_getD_getElem?, Array.getElem?_eq_none (by rw [h.size]; exact q)]
  exact .undef
theorem run_results {H : Heap} {w : World} {e : Env} {tmps : Array Value} {fn : Func} {rs : List AResult} {vs : List Value} (hr : Rel G ρ H w) (he : ER H.length ρ N e tmps) (hp : prepRes P N fn.results.toList = some rs) (hv : resultsL e H rs = some vs) :
  ∃ vs', VL H.length ρ vs vs' ∧ (results fn tmps).run P w = .ok (if h : vs'.toArray.size = 1 then vs'.toArray[0] else .tuple vs'.toArray) w :=
 run_resultsK hr (fun t _ => he.any t) hp hv
theorem pack_sound {n : Nat} {vs vs' : List Value} (h : VL n ρ vs vs') : VR n ρ (pack vs) (if h : vs'.toArray.size = 1 then vs'.toArray[0] else .tuple vs'.toArray) := by
 cases vs with
 | nil =>
  have : vs' = [] := List.eq_nil_of_length_eq_zero h.1.symm
  subst this
  exact VL.tuple VL.nil
 | cons v vs =>
  cases vs' with
  | nil => have := h.1; simp at this
  | cons v' vs' =>
   cases vs with
   | nil =>
    have : vs' = [] := List.eq_nil_of_length_eq_zero (by have := h.1; simpa using this.symm)
    subst this
    exact h.head
   | cons u vs =>
    cases vs' with
    | nil => have := h.1; simp at this
    | cons u' vs' =>
     rw [dif_neg (by simp)]
     exact VL.tuple h
/-- A program, and how many variables it has. -/
structure Pg where
 P : Program
 G : Nat
/-- A program's function, laid for the evaluator. -/
def Laid (T : Pg) (f : FuncId) (af : AFunc) : Prop := ∃ fn, T.P.funcs[f]? = some fn ∧ prepFn T.P T.G fn = some af
def TableOK (P : Program) (G : Nat) (T : Table) : Prop := ∀ (f : FuncId) (af : AFunc), T f = some af →
 match af with
 | .code _ _ _ => ∃ fn, P.funcs[f]? = some fn ∧ prepFn P G fn = some af
 | .dfr _ _ _ => ∃ fn, P.funcs[f]? = some fn ∧ prepFn P G fn = some af
 | .rcv _ _ _ _ => ∃ fn, P.funcs[f]? = some fn ∧ prepFn P G fn = some af
 | .ext g => ∀ (args : List Value) (v : Value), g args = some v → closedV v = true ∧ ∀ (n : Nat) (ρ : Nat → Place) (args' : Array Value), VL n ρ args args'.toList → ∀ w, (callFunc f args').run P w = .ok (.value v) w
 | .lib g => ∀ (args : List Value) (H : Heap) (v : Value), g args H = some v → closedV v = true ∧ (∀ (args' : Array Value) (w : World), (callFunc f args').run P w = .ok (.enter f args') w) ∧
   ∀ (ρ : Nat → Place) (w : World) (args' : Array Value), Rel G ρ H w → VL H.length ρ args args'.toList → Calls P f args' w (fun e w' => e = .returned v ∧ RowKit.Below w.heap.size w w')
/-- A function's code, as it was laid. -/
structure LaidC (T : Pg) (f : FuncId) (fn : Func) (c : Code) : Prop where
 get : T.P.funcs[f]? = some fn
 body : fn.body = some c
 enter : ∀ (args : Array Value) (w : World), (callFunc f args).run T.P w = .ok (.enter f args) w
theorem prepFn_inv {T : Pg} {f : FuncId} {af : AFunc} (h : Laid T f af) : ∃ fn c, LaidC T f fn c ∧ match af with
  | .code n b r => n = fn.ntmps ∧ prepCode T.P fn.ntmps T.G c = some b ∧ prepRes T.P fn.ntmps fn.results.toList = some r
  | .dfr n d r => n = fn.ntmps ∧ prepDef T.P fn.ntmps T.G c = some d ∧ keepOk false (r.map AResult.slot) c = true ∧ prepRes T.P fn.ntmps fn.results.toList = some r
  | .rcv n t al b => n = fn.ntmps ∧ prepRcv T.P fn.ntmps T.G c = some (t, al, b) ∧ prepRes T.P fn.ntmps fn.results.toList = some []
  | _ => False := by
 obtain ⟨fn, hfn, hprep⟩ := h
 unfold prepFn at hprep
 split at hprep
 ·cases hprep
 ·rename_i c hbody
  split at hprep
  ·cases hprep
  ·rename_i hname
   have hn2 : (fn.name == "runtime.NumGoroutine") = false := by simpa using hname
   have hc : LaidC T f fn c := ⟨hfn, hbody, fun args w => by
    unfold callFunc
    simp only [Sem.run_bind, run_program, Result.andThen_ok, hfn, hn2, Bool.false_eq_true, if_false, hbody, Option.isNone_some, Sem.run_pure]⟩
   split at hprep
   ·cases hprep
   ·rename_i r hres
    split at hprep
    ·rename_i b hb
     cases hprep
     exact ⟨fn, c, hc, rfl, hb, hres⟩
    ·split at hprep
     ·rename_i d hd
      split at hprep
      ·rename_i hk
       cases hprep
       exact ⟨fn, c, hc, rfl, hd, hk, hres⟩
      ·cases hprep
     ·split at hprep
      ·rename_i t al b hrcv
       cases hprep
       exact ⟨fn, c, hc, rfl, hrcv, hres⟩
      ·cases hprep
theorem get_pad : ∀ (n : Nat) (l : List Value) (i : Nat), get (pad n l) i = get l i
 | 0, _, _ => rfl
 | n + 1, [], 0 => rfl
 | n + 1, [], i + 1 => by
  rw [show get (pad (n + 1) []) (i + 1) = get (pad n []) i from rfl, get_pad n [] i]
  cases i <;> rfl
 | n + 1, v :: l, 0 => rfl
 | n + 1, v :: l, i + 1 => get_pad n l i
end
section
open Go.RowKit
variable {P : Program} {G : Nat}
end
section
/-- A call comes to such an answer and such blocks, in every world that the blocks fit. -/
def WD (T : Pg) (f : FuncId) (args : List Value) (H : Heap) (R : FRes → Heap → Prop) : Prop :=
 ∀ (ρ : Nat → Place) (w : World) (args' : Array Value), Rel T.G ρ H w → VL H.length ρ args args'.toList →
  (∃ v', (callFunc f args').run T.P w = .ok (.value v') w ∧ ∃ r H1, R r H1 ∧ RetOK T.G ρ H w r H1 (.returned v') w) ∨
  ((callFunc f args').run T.P w = .ok (.enter f args') w ∧ Calls T.P f args' w (fun en w' => ∃ r H1, R r H1 ∧ RetOK T.G ρ H w r H1 en w'))
/-- A call of a round comes to such an answer and such blocks. -/
def WY (T : Pg) (b : Nat) (args : List Value) (H : Heap) (R : FRes → Heap → Prop) : Prop :=
 ∀ (ρ : Nat → Place) (w : World) (args' : Array Value), Rel T.G ρ H w → VL H.length ρ args args'.toList →
  ∃ f tmps assign body, (Instr.yield (ρ b).blk args').run T.P w = .ok (.round (ρ b).blk f tmps assign body) w ∧
   RoundIn Fence.wide 0 T.P (ρ b).blk f tmps assign body w (fun en w' => ∃ r H1, R r H1 ∧ RetOK T.G ρ H w r H1 en w')
abbrev Post := AExit → Env → Heap → Prop
/-- What becomes of a call's answer. -/
def callK (next : Env → Heap → Post → Prop) (d : Option Nat) (e : Env) (Q : Post) : FRes → Heap → Prop := fun r H' =>
 match r with
 | .ret v => next (putO e d v) H' Q
 | .pan v => Q (.pan v) e H'
def WR (T : Pg) (next : Env → Heap → Post → Prop) (a : ARes) (d : Option Nat) (e : Env) (H : Heap) (Q : Post) : Prop :=
 match a with
 | .val v H' => next (putO e d v) H' Q
 | .skip H' => next (putO e d undef) H' Q
 | .call f args => WD T f args H (callK next d e Q)
 | .yield b args => WY T b args H (callK next d e Q)
 | .pan v => Q (.pan v) e H
 | .no => False
/-- A call while some blocks are not to be written. -/
def WRk (T : Pg) (bs : List Nat) (next : Env → Heap → Post → Prop) (a : ARes) (d : Option Nat) (e : Env) (H : Heap) (Q : Post) : Prop :=
 match a with
 | .val v H' => next (putO e d v) (thaw H bs H') Q
 | .call f args => WD T f args (frz H bs) (fun r H1 => callK next d e Q r (thaw H bs H1))
 | _ => False
def WOps (T : Pg) : List AOper → Env → Heap → Post → Prop
 | [], e, H, Q => Q .norm e H
 | o :: rest, e, H, Q =>
  match wantedA e o.guard with
  | none => False
  | some false => WOps T rest (putO e o.dst undef) H Q
  | some true =>
   if (o.op.isCall && !o.chk.isEmpty) = true then ((keepBs e o.chk).all fun b => (hget H b).isRow) = true ∧ WRk T (keepBs e o.chk) (WOps T rest) (aop e (frz H (keepBs e o.chk)) o.op) o.dst e H Q
   else if apartOK e H o.op o.chk = true then WR T (WOps T rest) (aop e H o.op) o.dst e H Q else False
def seqK (next : Env → Heap → Post → Prop) (Q : Post) : Post := fun r e H =>
 match r with
 | .norm => next e H Q
 | r => Q r e H
def blockK (id : Nat) (Q : Post) : Post := fun r e H =>
 match r with
 | .exit i => if i = id then Q .norm e H else Q (.exit i) e H
 | r => Q r e H
def WIf (v : Value) (A B : Prop) : Prop :=
 match v with
 | .bool true => A
 | .bool false => B
 | _ => False
/-- So many rounds at most. -/
def rds (body : Env → Heap → Post → Prop) : Nat → Env → Heap → Post → Prop
 | 0, _, _, _ => False
 | n + 1, e, H, Q => body e H (seqK (rds body n) Q)
/-- Behind a range over a function: the jump that is pending is done. -/
def rangeK (b : Nat) (e : Env) (Q : Post) : FRes → Heap → Prop := fun r H' =>
 match r with
 | .ret _ =>
  match hget H' b with
  | .loop _ _ st pe _ _ _ _ =>
   st ≠ .busy ∧ match pe with
    | none => Q .norm e (H'.set b .dead)
    | some none => Q .ret e (H'.set b .dead)
    | some (some id) => Q (.exit id) e (H'.set b .dead)
  | _ => False
 | .pan _ => False
def WRange (T : Pg) (v : Value) (ps : List Nat) (cz bd : ACode) (e : Env) (H : Heap) (Q : Post) : Prop :=
 match v with
 | .func (.func f) first captured => (∃ n body res, Laid T f (.code n body res)) ∧
   WD T f (first.toList ++ [.func (.yield H.length) #[] #[]] ++ captured.toList) (H ++ [.loop T.P T.G .ready none e ps cz bd]) (rangeK H.length e Q)
 | _ => False
def WC (T : Pg) : ACode → Env → Heap → Post → Prop
 | .skip, e, H, Q => Q .norm e H
 | .ops l, e, H, Q => WOps T l e H Q
 | .seq a b, e, H, Q => WC T a e H (seqK (WC T b) Q)
 | .cond c a b, e, H, Q => WIf (aev e c) (WC T a e H Q) (WC T b e H Q)
 | .block id c, e, H, Q => WC T c e H (blockK id Q)
 | .loop c, e, H, Q => ∃ n, rds (WC T c) n e H Q
 | .exit id, e, H, Q => Q (.exit id) e H
 | .ret, e, H, Q => Q .ret e H
 | .range f ps cz bd, e, H, Q => WRange T (aev e f) ps cz bd e H Q
def WLoop (T : Pg) (c : ACode) (e : Env) (H : Heap) (Q : Post) : Prop := ∃ n, rds (WC T c) n e H Q
theorem WD.mono {T : Pg} {f : FuncId} {args : List Value} {H : Heap} {R S : FRes → Heap → Prop} (h : WD T f args H R) (hs : ∀ r H', R r H' → S r H') : WD T f args H S := by
 intro ρ w args' hr ha
 rcases h ρ w args' hr ha with ⟨v', h1, r, H1, h2, h3⟩ | ⟨h1, h2⟩
 ·exact .inl ⟨v', h1, r, H1, hs _ _ h2, h3⟩
 ·exact .inr ⟨h1, h2.mono fun en w' ⟨r, H1, h3, h4⟩ => ⟨r, H1, hs _ _ h3, h4⟩⟩
theorem WY.mono {T : Pg} {b : Nat} {args : List Value} {H : Heap} {R S : FRes → Heap → Prop} (h : WY T b args H R) (hs : ∀ r H', R r H' → S r H') : WY T b args H S := by
 intro ρ w args' hr ha
 obtain ⟨f, tmps, assign, body, h1, h2⟩ := h ρ w args' hr ha
 exact ⟨f, tmps, assign, body, h1, h2.mono fun en w' ⟨r, H1, h3, h4⟩ => ⟨r, H1, hs _ _ h3, h4⟩⟩
theorem rangeK_mono {b : Nat} {e : Env} {Q S : Post} (hs : ∀ r e' H', Q r e' H' → S r e' H') (r : FRes) (H' : Heap) : rangeK b e Q r H' → rangeK b e S r H' := by
 intro h
 cases r with
 | ret v =>
  simp only [rangeK] at h ⊢
  split at h
  ·obtain ⟨h1, h2⟩ := h
   refine ⟨h1, ?_⟩
   split at h2 <;> exact hs _ _ _ h2
  ·exact h.elim
 | pan v => exact h
theorem callK_mono {n m : Env → Heap → Post → Prop} {d : Option Nat} {e : Env} {Q S : Post} (h1 : ∀ e H, n e H Q → m e H S) (h2 : ∀ r e H, Q r e H → S r e H) (r : FRes) (H : Heap) : callK n d e Q r H → callK m d e S r H := by
 cases r with
 | ret v => exact h1 _ _
 | pan v => exact h2 _ _ _
theorem WOps.mono {T : Pg} : ∀ {l : List AOper} {e : Env} {H : Heap} {Q S : Post}, WOps T l e H Q → (∀ r e' H', Q r e' H' → S r e' H') → WOps T l e H S
 | [], e, H, Q, S, h, hs => hs _ _ _ h
 | o :: rest, e, H, Q, S, h, hs => by
  simp only [WOps] at h ⊢
  split at h
  ·exact h.elim
  ·exact WOps.mono h hs
  ·split at h
   ·rename_i hk
    rw [if_pos hk]
    refine ⟨h.1, ?_⟩
    have h := h.2
    unfold WRk at h ⊢
    split at h
    ·exact WOps.mono h hs
    ·exact WD.mono h (fun r H1 hr => callK_mono (fun e H h => WOps.mono h hs) hs r _ hr)
    ·exact h.elim
   rename_i hk
   rw [if_neg hk]
   split at h
   ·rename_i ha
    rw [if_pos ha]
    unfold WR at h ⊢
    split at h
    ·exact WOps.mono h hs
    ·exact WOps.mono h hs
    ·exact WD.mono h (callK_mono (fun e H h => WOps.mono h hs) hs)
    ·exact WY.mono h (callK_mono (fun e H h => WOps.mono h hs) hs)
    ·exact hs _ _ _ h
    ·exact h.elim
   ·exact h.elim
theorem seqK_mono {n m : Env → Heap → Post → Prop} {Q S : Post} (h1 : ∀ e H, n e H Q → m e H S) (h2 : ∀ r e H, Q r e H → S r e H) (r : AExit) (e : Env) (H : Heap) : seqK n Q r e H → seqK m S r e H := by
 cases r with
 | norm => exact h1 _ _
 | exit i => exact h2 _ _ _
 | ret => exact h2 _ _ _
 | pan v => exact h2 _ _ _
theorem blockK_mono {id : Nat} {Q S : Post} (h2 : ∀ r e H, Q r e H → S r e H) (r : AExit) (e : Env) (H : Heap) : blockK id Q r e H → blockK id S r e H := by
 cases r with
 | norm => exact h2 _ _ _
 | exit i =>
  simp only [blockK]
  split
  ·exact h2 _ _ _
  ·exact h2 _ _ _
 | ret => exact h2 _ _ _
 | pan v => exact h2 _ _ _
theorem rds_mono {body : Env → Heap → Post → Prop} (hb : ∀ {e H Q S}, body e H Q → (∀ r e' H', Q r e' H' → S r e' H') → body e H S) :
  ∀ (n m : Nat) (e : Env) (H : Heap) (Q S : Post), n ≤ m → rds body n e H Q → (∀ r e' H', Q r e' H' → S r e' H') → rds body m e H S := by
 intro n
 induction n with
 | zero => intro m e H Q S _ h; exact h.elim
 | succ n ih =>
  intro m e H Q S hm h hs
  obtain ⟨m, rfl⟩ : ∃ k, m = k + 1 := ⟨m - 1, by omega⟩
  exact hb h (seqK_mono (fun e H h => ih m e H Q S (by omega) h hs) hs)
theorem WC.mono {T : Pg} : ∀ {c : ACode} {e : Env} {H : Heap} {Q S : Post}, WC T c e H Q → (∀ r e' H', Q r e' H' → S r e' H') → WC T c e H S := by
 intro c
 induction c with
 | skip => intro e H Q S h hs; exact hs _ _ _ h
 | ops l => intro e H Q S h hs; exact WOps.mono (l := l) h hs
 | seq a b iha ihb => intro e H Q S h hs; exact iha h (seqK_mono (fun e H h => ihb h hs) hs)
 | cond c a b iha ihb =>
  intro e H Q S h hs
  simp only [WC] at h ⊢
  unfold WIf at h ⊢
  split at h
  ·exact iha h hs
  ·exact ihb h hs
  ·exact h.elim
 | block id c ih => intro e H Q S h hs; exact ih h (blockK_mono hs)
 | loop c ih =>
  intro e H Q S h hs
  obtain ⟨n, h⟩ := h
  exact ⟨n, rds_mono (body := WC T c) (fun h hs => ih h hs) n n e H Q S (Nat.le_refl _) h hs⟩
 | exit id => intro e H Q S h hs; exact hs _ _ _ h
 | ret => intro e H Q S h hs; exact hs _ _ _ h
 | range f ps cz bd =>
  intro e H Q S h hs
  simp only [WC] at h ⊢
  unfold WRange at h ⊢
  split at h
  ·exact ⟨h.1, WD.mono h.2 (rangeK_mono hs)⟩
  ·exact h.elim
/-- A loop with an invariant and a number that falls. -/
theorem WLoop.inv {T : Pg} {c : ACode} {Q : Post} (I : Nat → Env → Heap → Prop) (hstep : ∀ n e H, I n e H → WC T c e H (seqK (fun e' H' _ => ∃ m, m < n ∧ I m e' H') Q)) :
  ∀ n e H, I n e H → WLoop T c e H Q := by
 have key : ∀ n e H, I n e H → rds (WC T c) (n + 1) e H Q := by
  intro n
  induction n using Nat.strongRecOn with
  | ind n ih =>
   intro e H hI
   refine WC.mono (hstep n e H hI) (seqK_mono (fun e H h => ?_) (fun _ _ _ h => h))
   obtain ⟨m, hm, hI2⟩ := h
   exact rds_mono (body := WC T c) (fun h hs => WC.mono h hs) (m + 1) n e H Q Q (by omega) (ih m hm e H hI2) (fun _ _ _ h => h)
 exact fun n e H hI => ⟨n + 1, key n e H hI⟩
theorem WLoop.step {T : Pg} {c : ACode} {e : Env} {H : Heap} {Q : Post} {n : Nat} (h : WC T c e H (seqK (rds (WC T c) n) Q)) : WLoop T c e H Q := ⟨n + 1, h⟩
end
section
/-- Of what frame is spoken: of a round's; of one that has deferred such calls ahead; what slots stay as they are. -/
structure Cx where
 rnd : Option Nat
 tail : List Deferred
 keep : List Nat
 calm : Bool
def cx0 : Cx := ⟨none, [], [], false⟩
variable {T : Pg} {N : Nat} {ρ : Nat → Place} {ops : Array Oper} {rd : Cx}
/-- The fence that lets all in; rd: the frame of which is spoken. -/
def Fr (rd : Cx) : Fence := { Fence.wide with round := rd.rnd }
theorem fr_about {o : Oper} {P : Program} {w : World} {g : Operand → Value} : ∀ f, o.about P w g = some f → (Fr rd).fn f := fun _ _ => trivial
theorem fr_depth {n : Nat} : (Fr rd).depth.isSome = true → 1 ≤ n := fun h => by simp [Fr, Fence.wide] at h
theorem fr_calls {P : Program} {f : FuncId} {args : Array Value} {w : World} {R : Ending → World → Prop} (h : Calls P f args w R) : CallsIn (Fr rd) 0 P f args w R := (callsIn_wide (n := 0)).2 h
theorem fr_round {P : Program} {l : Nat} {f : FuncId} {tmps : Array Value} {a b : Code} {w : World} {R : Ending → World → Prop} (h : RoundIn Fence.wide 0 P l f tmps a b w R) : RoundIn (Fr rd) 0 P l f tmps a b w R := h
/-- The marks of ranges over functions among the deferred calls: their blocks lie as they were laid. -/
def Marks0 (rd : Option Nat) (n0 : Nat) (w : World) (ds : List Deferred) : Prop :=
 (∀ l, rd = some l → ds = [] ∧ ∃ r, w.heap[l]? = some (Obj.loop r)) ∧ (∀ d ∈ ds, ∃ D, d = { target := .collected D, args := #[] } ∧ n0 ≤ D ∧ w.heap[D]? = some (.deferred (some []))) ∧ ds.Pairwise (· ≠ ·)
/-- .. and behind them what was deferred before. -/
def Marks (rd : Cx) (n0 : Nat) (w : World) (ds : List Deferred) : Prop := ∃ ms, ds = ms ++ rd.tail ∧ Marks0 rd.rnd n0 w ms ∧ (rd.rnd.isSome = true → rd.tail = []) ∧ (rd.calm = true → ms = [])
theorem Marks.nil {n0 : Nat} {w : World} {d : List Deferred} {k : List Nat} {c : Bool} : Marks ⟨none, d, k, c⟩ n0 w d := ⟨[], rfl, ⟨fun l h => (by cases h), fun d h => (by cases h), List.Pairwise.nil⟩, fun h => (by cases h), fun _ => rfl⟩
theorem Marks.round {n0 l : Nat} {w : World} {r : Loop} (h : w.heap[l]? = some (Obj.loop r)) : Marks ⟨some l, [], [], false⟩ n0 w [] := ⟨[], rfl, ⟨fun k e => (by cases e; exact ⟨rfl, r, h⟩), fun d h => (by cases h), List.Pairwise.nil⟩, fun _ => rfl, fun _ => rfl⟩
theorem not_foot {G : Nat} {H : Heap} {w : World} {D : Nat} {ds : Option (List Deferred)} (hr : Rel G ρ H w) (h : w.heap[D]? = some (.deferred ds)) : ¬ Foot ρ H D := by
 rintro ⟨b, o, hb, hw, rfl⟩
 have ho := hr.obj b o hb
 cases o with
 | row cs u wr => obtain ⟨_, _, _, h1, _⟩ := ho; rw [h1] at h; cases h
 | iter s p => have h1 := ho.1; rw [h1] at h; cases h
 | loop P G st pe env ps cz bd => obtain ⟨_, _, _, _, _, _, _, h1, _⟩ := ho; rw [h1] at h; cases h
 | map es => obtain ⟨_, _, h1, _⟩ := ho; rw [h1] at h; cases h
 | dead => cases hw
theorem Marks0.step {r : Option Nat} {G n0 : Nat} {H H1 : Heap} {w w1 : World} {ρ1 : Nat → Place} {ds : List Deferred} (h : Marks0 r n0 w ds) (hr : Rel G ρ H w) (hs : Step G ρ H w ρ1 H1 w1) : Marks0 r n0 w1 ds := by
 refine ⟨fun l hl => ⟨(h.1 l hl).1, (h.1 l hl).2.elim fun r q => hs.loops l r q⟩, fun d hd => ?_, h.2.2⟩
 obtain ⟨D, h1, h2, h3⟩ := h.2.1 d hd
 exact ⟨D, h1, h2, by rw [hs.frame D (Array.getElem?_eq_some_iff.1 h3).1 (not_foot hr h3)]; exact h3⟩
theorem Marks.step {G n0 : Nat} {H H1 : Heap} {w w1 : World} {ρ1 : Nat → Place} {ds : List Deferred} (h : Marks rd n0 w ds) (hr : Rel G ρ H w) (hs : Step G ρ H w ρ1 H1 w1) : Marks rd n0 w1 ds := by
 obtain ⟨ms, h1, h2, h3⟩ := h
 exact ⟨ms, h1, h2.step hr hs, h3⟩
theorem Marks.heap {n0 : Nat} {w w1 : World} {ds : List Deferred} (h : Marks rd n0 w ds) (e : w1.heap = w.heap) : Marks rd n0 w1 ds := by
 obtain ⟨ms, h1, h, h3⟩ := h
 refine ⟨ms, h1, ⟨fun l hl => by rw [e]; exact h.1 l hl, fun d hd => ?_, h.2.2⟩, h3⟩
 rw [e]
 exact h.2.1 d hd
/-- Such a state is come to. -/
def PostQ (T : Pg) (ρ : Nat → Place) (H : Heap) (w : World) (N : Nat) (rd : Cx) (Q : Post) : Exit → Act → World → Prop := fun ex a' w' =>
 ∃ r e' H', Q r e' H' ∧ ∃ ρ', Step T.G ρ H w ρ' H' w' ∧ Marks rd w.heap.size w' a'.defers ∧ match r with
  | .norm => ex = .normal ∧ ER H'.length ρ' N e' a'.tmps
  | .exit id => ex = .exit id ∧ ER H'.length ρ' N e' a'.tmps
  | .ret => ex = .ret ∧ ER H'.length ρ' N e' a'.tmps
  | .pan v => ∃ v', ex = .panic [{ v := v', recovered := false }] ∧ VR H'.length ρ' v v' ∧ ∀ t ∈ rd.keep, VR H'.length ρ' (get e' t) (a'.tmps.getD t undef)
/-- A frame in which such slots are the other one's. -/
def SameK (keep : List Nat) (a a' : Act) : Prop := ∀ t ∈ keep, a'.tmps.getD t undef = a.tmps.getD t undef
theorem SameK.put {keep : List Nat} {a : Act} {d : Option Nat} {v : Value} (h : ∀ t, d = some t → t ∉ keep) : SameK keep a (a.put d v) := by
 intro t ht
 cases d with
 | none => rfl
 | some d =>
  have : d ≠ t := fun e => h d rfl (by rw [e]; exact ht)
  simp [Act.put, Array.getElem?_setIfInBounds_ne this]
theorem SameK.symm {keep : List Nat} {a a' : Act} (h : SameK keep a a') : SameK keep a' a := fun t ht => (h t ht).symm
theorem PostQ.panic {H : Heap} {w : World} {Q : Post} {c : List PanicEntry} {a a' : Act} {w' : World} (h : PostQ T ρ H w N rd Q (.panic c) a w') (hd : a'.defers = a.defers) (hk : SameK rd.keep a a') :
  PostQ T ρ H w N rd Q (.panic c) a' w' := by
 obtain ⟨r, e', H', h1, ρ', h2, h3, h4⟩ := h
 refine ⟨r, e', H', h1, ρ', h2, by rw [hd]; exact h3, ?_⟩
 cases r with
 | norm => cases h4.1
 | exit id => cases h4.1
 | ret => cases h4.1
 | pan v =>
  obtain ⟨v', h5, h6, h7⟩ := h4
  exact ⟨v', h5, h6, fun t ht => by rw [hk t ht]; exact h7 t ht⟩
theorem aop_yield {e : Env} {H : Heap} {ao : AOp} {b : Nat} {args : List Value} (h : aop e H ao = .yield b args) : ∃ f l x y, ao = .callv f l ∧ aev e f = .func (.yield b) x y ∧ args = l.map (aev e) := by
 cases ao <;> simp only [aop, appendV] at h <;> first
  | (cases h; done)
  | (exfalso; revert h; unfold ofO; (repeat' split) <;> intro h <;> cases h; done)
  | (exfalso; revert h; (repeat' split) <;> intro h <;> cases h; done)
  | skip
 rename_i f l
 split at h
 ·cases h
 ·rename_i b' x y hf
  cases h
  exact ⟨f, l, x, y, rfl, hf, rfl⟩
 ·cases h
theorem prep_callv {P : Program} {G : Nat} {op : Op} {f : Operand} {l : List Operand} (h : prepOp P N G op = some (.callv f l)) : ∃ c, op = .call c ∧ c.callee = .value f ∧ l = c.args.toList ∧ okO N G f = true ∧ c.args.toList.all (okO N G) = true := by
 cases op with
 | call c =>
  simp only [prepOp] at h
  unfold prepCall at h
  split at h
  ·cases h
  ·rename_i hargs
   have hx : c.args.toList.all (okO N G) = true := by simpa using hargs
   split at h
   ·rename_i g hc
    split at h
    ·rename_i hf
     cases h
     exact ⟨c, rfl, hc, rfl, hf, hx⟩
    ·cases h
   all_goals (exfalso; revert h; (repeat' split) <;> intro h <;> first | (cases h; done) | (simp [Option.map_eq_some_iff] at h; done))
 | binOp op t x y yt =>
  exfalso
  revert h
  simp only [prepOp]
  split
  ·unfold prepBin
   (repeat' split) <;> intro h <;> cases h
  ·intro h; cases h
 | _ => exfalso; revert h; simp only [prepOp]; (repeat' split) <;> intro h <;> first | (cases h; done) | (obtain ⟨_, _, _, _, _, h2⟩ := prepMap_spec h; first | (cases h2; done) | (simp [Option.map_eq_some_iff] at h2; done)) | (rename_i hq _ _; cases hq; done) | (rename_i hq _; cases hq; done) | (rename_i hq; cases hq; done) | (simp [Option.map_eq_some_iff] at h; done)
theorem yield_ok {o : Oper} {ao : AOp} (hop : prepOp T.P N T.G o.op = some ao) {e : Env} {a : Act} {H : Heap} {w : World} (hf : Fits T.G N H.length ρ e a) {b : Nat} {args : List Value} (h : aop e H ao = .yield b args) :
  ∃ args', (execOp a.eval o).run T.P w = (Instr.yield (ρ b).blk args').run T.P w ∧ VL H.length ρ args args'.toList := by
 obtain ⟨f, l, x, y, rfl, hfv, rfl⟩ := aop_yield h
 obtain ⟨c, hc, hcal, rfl, hf0, hx⟩ := prep_callv hop
 have h1 := hf.op hf0
 have h2 := vl_ops hf _ hx
 rw [hfv] at h1
 obtain ⟨hb, rfl, rfl, hv⟩ := h1.inv_yield
 refine ⟨c.args.map a.eval, ?_, by simpa using h2⟩
 obtain ⟨dst, op, ty, pos, after, guard⟩ := o
 simp only at hc
 subst hc
 simp [execOp, resolve, hcal, hv, Deferred.ofValue, invoke]
/-! ### Blocks that a call must leave alone -/
theorem frz1_len (H : Heap) (b : Nat) : (frz1 H b).length = H.length := by
 unfold frz1
 split <;> simp
theorem frz_len : ∀ (bs : List Nat) (H : Heap), (frz H bs).length = H.length
 | [], _ => rfl
 | b :: bs, H => by rw [frz, frz_len bs, frz1_len]
theorem thaw1_len (H : Heap) (b : Nat) (K : Heap) : (thaw1 H b K).length = K.length := by
 unfold thaw1
 split <;> simp
theorem thaw_len : ∀ (bs : List Nat) (H K : Heap), (thaw H bs K).length = K.length
 | [], _, _ => rfl
 | b :: bs, H, K => by rw [thaw, thaw1_len, thaw_len bs]
theorem frz1_get {H : Heap} {b c : Nat} {u : AObj} (h : (frz1 H b)[c]? = some u) : ∃ o, H[c]? = some o ∧ (o = u ∨ (c = b ∧ ∃ cs n, o = .row cs n true ∧ u = .row cs n false)) := by
 unfold frz1 at h
 split at h
 ·rename_i cs n hb
  by_cases hc : b = c
  ·subst hc
   have h1 := hget_some hb rfl
   have hlt := (List.getElem?_eq_some_iff.1 h1).1
   rw [List.getElem?_set_self hlt] at h
   cases h
   exact ⟨_, h1, .inr ⟨rfl, cs, n, rfl, rfl⟩⟩
  ·rw [List.getElem?_set_ne hc] at h
   exact ⟨u, h, .inl rfl⟩
 ·exact ⟨u, h, .inl rfl⟩
theorem rel_frz1 {G : Nat} {H : Heap} {w : World} (hr : Rel G ρ H w) (b : Nat) : Rel G ρ (frz1 H b) w := by
 refine ⟨fun c u hu => ?_, fun c d u v hu hv hne hw hl => ?_, hr.glob, by rw [frz1_len]; exact hr.many⟩
 ·rw [frz1_len]
  obtain ⟨o, ho, h | ⟨rfl, cs, n, rfl, rfl⟩⟩ := frz1_get hu
  ·subst h; exact hr.obj c o ho
  ·obtain ⟨cells, t, fr, h1, h2, _⟩ := hr.obj c _ ho
   exact ⟨cells, t, fr, h1, h2, fun h => by cases h⟩
 ·obtain ⟨o, ho, h | ⟨_, cs, n, rfl, rfl⟩⟩ := frz1_get hu
  ·subst h
   obtain ⟨p, hp, h | ⟨_, cs, n, rfl, rfl⟩⟩ := frz1_get hv
   ·subst h; exact hr.inj c d o p ho hp hne hw hl
   ·exact hr.inj c d o _ ho hp hne hw rfl
  ·cases hw
theorem rel_frz {G : Nat} {w : World} : ∀ (bs : List Nat) (H : Heap), Rel G ρ H w → Rel G ρ (frz H bs) w
 | [], _, hr => hr
 | b :: bs, H, hr => rel_frz bs _ (rel_frz1 hr b)
theorem foot_frz1 {H : Heap} {b D : Nat} (h : Foot ρ (frz1 H b) D) : Foot ρ H D := by
 obtain ⟨c, u, hu, hw, rfl⟩ := h
 obtain ⟨o, ho, h | ⟨_, cs, n, rfl, rfl⟩⟩ := frz1_get hu
 ·subst h; exact ⟨c, o, ho, hw, rfl⟩
 ·cases hw
theorem foot_frz {D : Nat} : ∀ (bs : List Nat) (H : Heap), Foot ρ (frz H bs) D → Foot ρ H D
 | [], _, h => h
 | b :: bs, H, h => foot_frz1 (foot_frz bs _ h)
/-- A row that is kept: none may write where it stands. -/
theorem nofoot_frz1 {G : Nat} {H : Heap} {w : World} (hr : Rel G ρ H w) {b : Nat} (hb : (hget H b).isRow = true) : ¬ Foot ρ (frz1 H b) (ρ b).blk := by
 rintro ⟨c, u, hu, hw, he⟩
 have hbl : (hget H b).live = true := by cases h : hget H b <;> rw [h] at hb <;> first | rfl | cases hb
 have hb' := hget_some rfl hbl
 obtain ⟨o, ho, h | ⟨_, cs, n, rfl, rfl⟩⟩ := frz1_get hu
 ·subst h
  by_cases hc : c = b
  ·subst hc
   rw [hb'] at ho
   cases ho
   unfold frz1 at hu
   split at hu
   ·rename_i cs n hr1
    rw [List.getElem?_set_self (List.getElem?_eq_some_iff.1 hb').1] at hu
    rw [hr1] at hu
    cases hu
   ·rename_i hne
    cases hq : hget H c with
    | row cs n wr =>
     rw [hq] at hw
     cases wr with
     | true => exact hne cs n hq
     | false => cases hw
    | iter s p => rw [hq] at hb; cases hb
    | loop _ _ _ _ _ _ _ _ => rw [hq] at hb; cases hb
    | map _ => rw [hq] at hb; cases hb
    | dead => rw [hq] at hb; cases hb
  ·exact hr.inj c b o _ ho hb' hc hw hbl he
 ·cases hw
theorem isRow_frz1 {H : Heap} {b c : Nat} (h : (hget H c).isRow = true) : (hget (frz1 H b) c).isRow = true := by
 unfold frz1
 split
 ·rename_i cs n hb
  by_cases hc : b = c
  ·subst hc
   have hlt := (List.getElem?_eq_some_iff.1 (hget_some hb rfl)).1
   simp [hget, hlt, AObj.isRow]
  ·simp only [hget, List.getElem?_set_ne hc]
   exact h
 ·exact h
theorem nofoot_frz {G : Nat} {w : World} : ∀ (bs : List Nat) (H : Heap), Rel G ρ H w → (bs.all fun b => (hget H b).isRow) = true → ∀ b ∈ bs, ¬ Foot ρ (frz H bs) (ρ b).blk
 | [], _, _, _, b, hb => by cases hb
 | c :: bs, H, hr, hall, b, hb => by
  simp only [List.all_cons, Bool.and_eq_true] at hall
  have hall' : (bs.all fun b => (hget (frz1 H c) b).isRow) = true := List.all_eq_true.2 fun d hd => isRow_frz1 (List.all_eq_true.1 hall.2 d hd)
  rcases List.mem_cons.1 hb with rfl | hb
  ·exact fun hf => nofoot_frz1 hr hall.1 (foot_frz bs _ hf)
  ·exact nofoot_frz bs _ (rel_frz1 hr c) hall' b hb
theorem thaw1_step {G : Nat} {ρ ρ1 : Nat → Place} {H H1 : Heap} {w w1 : World} {b : Nat} (hr : Rel G ρ H w) (hs : Step G ρ (frz1 H b) w ρ1 H1 w1) : Step G ρ H w ρ1 (thaw1 H b H1) w1 := by
 cases hq : hget H b with
 | row cs n wr =>
  cases wr with
  | true =>
   have hb' := hget_some hq rfl
   have hlt := (List.getElem?_eq_some_iff.1 hb').1
   have hno := nofoot_frz1 hr (b := b) (by rw [hq]; rfl)
   obtain ⟨cells, t, fr, h1, h2, h3⟩ := hr.obj b _ hb'
   have hsize : (ρ b).blk < w.heap.size := (Array.getElem?_eq_some_iff.1 h1).1
   have hkeep := hs.frame _ hsize hno
   have hlen : H.length ≤ H1.length := by have := hs.len; rwa [frz1_len] at this
   have hsame : ∀ c, c < H.length → ρ1 c = ρ c := fun c hc => hs.same c (by rw [frz1_len]; exact hc)
   have hno1 : ¬ Foot ρ1 H1 (ρ b).blk := fun hf => (hs.fresh _ hf).elim hno (fun q => by omega)
   have e : thaw1 H b H1 = H1.set b (.row cs n true) := by unfold thaw1; rw [hq]
   have ef : frz1 H b = H.set b (.row cs n false) := by unfold frz1; rw [hq]
   rw [e]
   have hor : OR H1.length ρ1 w1 b (.row cs n true) := by
    refine ⟨cells, t, fr, by rw [hsame b hlt, hkeep]; exact h1, fun i v hi => ?_, by rw [hsame b hlt]; exact h3⟩
    obtain ⟨v', h4, h5⟩ := h2 i v hi
    exact ⟨v', by rw [hsame b hlt]; exact h4, h5.mono hlen hsame⟩
   have hnl : ∀ (c : Nat) (u : AObj), H1[c]? = some u → u.live = true → c ≠ b → (ρ1 c).blk ≠ (ρ b).blk := fun c u hu hl hcb he => by
    rcases hs.lives c u hu hl with ⟨o, ho, hol⟩ | hf | hz
    ·rw [ef, List.getElem?_set_ne (fun e => hcb e.symm)] at ho
     have hcl := (List.getElem?_eq_some_iff.1 ho).1
     rw [hsame c hcl] at he
     exact hr.inj b c _ o hb' ho (fun e => hcb e.symm) rfl hol he.symm
    ·rw [he] at hf; exact hno hf
    ·rw [he] at hz; omega
   have hlt1 : b < H1.length := Nat.lt_of_lt_of_le hlt hlen
   have cases_ : ∀ c u, (H1.set b (.row cs n true))[c]? = some u → (c ≠ b ∧ H1[c]? = some u) ∨ (c = b ∧ u = .row cs n true) := fun c u h => by
    by_cases hc : c = b
    ·subst hc; rw [List.getElem?_set_self hlt1] at h; cases h; exact .inr ⟨rfl, rfl⟩
    ·rw [List.getElem?_set_ne (fun e => hc e.symm)] at h; exact .inl ⟨hc, h⟩
   refine ⟨⟨fun c u hu => ?_, fun c d u v hu hv hne hwr hl => ?_, hs.rel.glob, by simpa using hs.rel.many⟩, by simpa using hlen, hsame, hs.os, hs.tape, hs.output, hs.size, fun c hc hf => hs.frame c hc fun q => hf (foot_frz1 q), fun c hc => ?_, hs.loops, fun c u hu hl => ?_⟩
   ·rw [List.length_set]
    rcases cases_ c u hu with ⟨hc, hu⟩ | ⟨rfl, rfl⟩
    ·exact hs.rel.obj c u hu
    ·exact hor
   ·rcases cases_ c u hu with ⟨hc, hu2⟩ | ⟨rfl, rfl⟩ <;> rcases cases_ d v hv with ⟨hd, hv2⟩ | ⟨rfl, rfl⟩
    ·exact hs.rel.inj c d u v hu2 hv2 hne hwr hl
    ·rw [hsame d hlt]; exact hnl c u hu2 (live_of_wrt hwr) hc
    ·rw [hsame c hlt]; exact fun e => hnl d v hv2 hl hd e.symm
    ·exact absurd rfl hne
   ·obtain ⟨d, u, hu, hwr, rfl⟩ := hc
    rcases cases_ d u hu with ⟨hd, hu⟩ | ⟨rfl, rfl⟩
    ·exact (hs.fresh _ ⟨d, u, hu, hwr, rfl⟩).imp foot_frz1 id
    ·rw [hsame d hlt]; exact .inl ⟨d, _, hb', rfl, rfl⟩
   ·rcases cases_ c u hu with ⟨hc, hu2⟩ | ⟨rfl, rfl⟩
    ·rcases hs.lives c u hu2 hl with ⟨o, ho, hol⟩ | h | h
     ·obtain ⟨o', ho', h | ⟨_, _, _, rfl, rfl⟩⟩ := frz1_get ho
      ·subst h; exact .inl ⟨o', ho', hol⟩
      ·exact .inl ⟨_, ho', rfl⟩
     ·exact .inr (.inl (foot_frz1 h))
     ·exact .inr (.inr h)
    ·exact .inl ⟨_, hb', rfl⟩
  | false =>
   have e : thaw1 H b H1 = H1 := by unfold thaw1; rw [hq]
   have ef : frz1 H b = H := by unfold frz1; rw [hq]
   rw [e]; rwa [ef] at hs
 | iter s p =>
  have e : thaw1 H b H1 = H1 := by unfold thaw1; rw [hq]
  have ef : frz1 H b = H := by unfold frz1; rw [hq]
  rw [e]; rwa [ef] at hs
 | map _ =>
  have e : thaw1 H b H1 = H1 := by unfold thaw1; rw [hq]
  have ef : frz1 H b = H := by unfold frz1; rw [hq]
  rw [e]; rwa [ef] at hs
 | loop _ _ _ _ _ _ _ _ =>
  have e : thaw1 H b H1 = H1 := by unfold thaw1; rw [hq]
  have ef : frz1 H b = H := by unfold frz1; rw [hq]
  rw [e]; rwa [ef] at hs
 | dead =>
  have e : thaw1 H b H1 = H1 := by unfold thaw1; rw [hq]
  have ef : frz1 H b = H := by unfold frz1; rw [hq]
  rw [e]; rwa [ef] at hs
theorem thaw_step {G : Nat} {ρ ρ1 : Nat → Place} {H1 : Heap} {w w1 : World} : ∀ (bs : List Nat) (H : Heap), Rel G ρ H w → Step G ρ (frz H bs) w ρ1 H1 w1 → Step G ρ H w ρ1 (thaw H bs H1) w1
 | [], _, _, hs => hs
 | b :: bs, H, hr, hs => thaw1_step hr (thaw_step bs _ (rel_frz1 hr b) hs)
theorem isCall_shape {e : Env} {H : Heap} {op : AOp} (h : op.isCall = true) : (∃ f l, op = .callv f l) ∨ ∃ u b s x, op = .append u b s x := by
 cases op <;> first | (cases h; done) | exact .inl ⟨_, _, rfl⟩ | exact .inr ⟨_, _, _, _, rfl⟩
theorem op_stepW {o : Oper} {ao : AOper} {chk : List (Nat × Nat)} {rest : List AOper} {e : Env} {H : Heap} {q : Post} {a : Act} {w : World} {i : Nat} {Q : Exit → Act → World → Prop} {K : Act → World → Prop}
  (hp : prepOper T.P N T.G ops o chk = some ao) (hi : ops[i]? = some o) (hnd : ∀ c, o.op ≠ .defer c) (hr : Rel T.G ρ H w) (hf : Fits T.G N H.length ρ e a) (hev : WOps T (ao :: rest) e H q)
  (hK : ∀ e1 H1 ρ1 a1 w1, WOps T rest e1 H1 q → Step T.G ρ H w ρ1 H1 w1 → Fits T.G N H1.length ρ1 e1 a1 → a1.defers = a.defers → (∃ v, e1 = putO e o.dst v) → (ao.op.isCall = true → ∀ b ∈ keepBs e chk, (hget H b).isRow = true ∧ w1.heap[(ρ b).blk]? = w.heap[(ρ b).blk]?) ∨ wantedA e ao.guard = some false ∧ w1 = w → K a1 w1)
  (hP : ∀ v v' H' ρ1 w1, q (.pan v) e H' → Step T.G ρ H w ρ1 H' w1 → VR H'.length ρ1 v v' → Q (.panic [{ v := v', recovered := false }]) a w1) : wpOpIn (Fr rd) 0 T.P ops Q i K a w := by
 obtain ⟨hop, hdst, hchk, _⟩ := prepOper_op hp
 have hok := (op_ok (o := o) hop).1 e a H ρ w hr hf
 unfold wpOpIn
 simp only [hi]
 simp only [WOps] at hev
 split at hev
 ·exact hev.elim
 ·rename_i hw
  rw [wanted_ok hp hf hw]
  simp only [Bool.false_eq_true, if_false]
  rw [hdst] at hev
  exact ⟨fr_about, hK _ _ ρ _ _ hev (Step.refl hr) (hf.put (prepOper_dst hp) .undef) (put_defers _ _ _) ⟨_, rfl⟩ (.inr ⟨hw, rfl⟩)⟩
 ·rename_i hw
  rw [wanted_ok hp hf hw]
  simp only [if_true]
  split at hev
  ·-- a call that leaves some blocks alone
   rename_i hkeep
   simp only [Bool.and_eq_true] at hkeep
   obtain ⟨hall, hev⟩ := hev
   rw [hchk] at hall hev
   rw [hdst] at hev
   unfold Oper.wpIn
   refine ⟨fr_about, ?_⟩
   rw [Oper.semAt_eq _ _ _ hnd]
   unfold WRk at hev
   have hrf := rel_frz (keepBs e chk) H hr
   have hokf := (op_ok (o := o) hop).1 e a (frz H (keepBs e chk)) ρ w hrf (by rw [frz_len]; exact hf)
   have nof := nofoot_frz (keepBs e chk) H hr hall
   have kept : ∀ {ρ1 : Nat → Place} {H1 : Heap} {w1 : World}, Step T.G ρ (frz H (keepBs e chk)) w ρ1 H1 w1 → ∀ b ∈ keepBs e chk, (hget H b).isRow = true ∧ w1.heap[(ρ b).blk]? = w.heap[(ρ b).blk]? := fun hs b hb => by
    have hrow := List.all_eq_true.1 hall b hb
    have hbl : (hget H b).live = true := by cases h : hget H b <;> rw [h] at hrow <;> first | rfl | cases hrow
    exact ⟨hrow, hs.frame _ (lt_of_live (hr.obj b _ (hget_some rfl hbl)) hbl) (nof b hb)⟩
   split at hev
   case h_3 => exact hev.elim
   ·rename_i v H1 ha
    obtain ⟨ρ1, v', w1, hrun, hs, hv⟩ := hokf.1 v H1 ha
    rw [hrun]
    have hst := thaw_step (keepBs e chk) H hr hs
    exact hK _ _ ρ1 _ _ hev hst ((hf.step hst).put (prepOper_dst hp) (by rw [thaw_len]; exact hv)) (put_defers _ _ _) ⟨_, rfl⟩ (.inl fun _ => kept hs)
   rename_i f args ha
   obtain ⟨args', hrun, hvl⟩ := hokf.2.2.1 f args ha
   rw [hrun]
   rcases hev ρ w args' hrf hvl with ⟨v', hrun2, r, H1, hq, ρ1, hs, hres⟩ | ⟨hrun2, hcalls⟩
   ·rw [hrun2]
    have hst := thaw_step (keepBs e chk) H hr hs
    cases r with
    | ret v =>
     obtain ⟨v2, heq, hvr⟩ := hres
     cases heq
     exact hK _ _ ρ1 _ _ hq hst ((hf.step hst).put (prepOper_dst hp) (by rw [thaw_len]; exact hvr)) (put_defers _ _ _) ⟨_, rfl⟩ (.inl fun _ => kept hs)
    | pan v =>
     obtain ⟨v2, heq, hvr⟩ := hres
     cases heq
   ·rw [hrun2]
    refine ⟨fr_depth, fr_calls (Calls.mono hcalls fun en w1 hen => ?_)⟩
    obtain ⟨r, H1, hq, ρ1, hs, hres⟩ := hen
    have hst := thaw_step (keepBs e chk) H hr hs
    cases r with
    | ret v =>
     obtain ⟨v', rfl, hvr⟩ := hres
     exact hK _ _ ρ1 _ _ hq hst ((hf.step hst).put (prepOper_dst hp) (by rw [thaw_len]; exact hvr)) (put_defers _ _ _) ⟨_, rfl⟩ (.inl fun _ => kept hs)
    | pan v =>
     obtain ⟨v', rfl, hvr⟩ := hres
     exact hP _ _ _ ρ1 _ hq hst (by rw [thaw_len]; exact hvr)
  rename_i hnk
  have nokeep : ao.op.isCall = true → ∀ {w1 : World}, ∀ b ∈ keepBs e chk, (hget H b).isRow = true ∧ w1.heap[(ρ b).blk]? = w.heap[(ρ b).blk]? := fun hc w1 b hb => by
   exfalso
   have : chk = [] := by
    rw [hchk] at hnk
    cases chk with
    | nil => rfl
    | cons c l => simp [hc] at hnk
   rw [this] at hb
   cases hb
  split at hev
  case isFalse => exact hev.elim
  ·rw [hdst] at hev
   unfold Oper.wpIn
   refine ⟨fr_about, ?_⟩
   rw [Oper.semAt_eq _ _ _ hnd]
   unfold WR at hev
   split at hev
   ·rename_i v H1 ha
    obtain ⟨ρ1, v', w1, hrun, hs, hv⟩ := hok.1 v H1 ha
    rw [hrun]
    exact hK _ _ ρ1 _ _ hev hs ((hf.step hs).put (prepOper_dst hp) hv) (put_defers _ _ _) ⟨_, rfl⟩ (.inl fun hc => nokeep hc)
   ·rename_i H1 ha
    obtain ⟨ρ1, w1, hrun, hs⟩ := hok.2.1 H1 ha
    rw [hrun]
    exact hK _ _ ρ1 _ _ hev hs ((hf.step hs).put (prepOper_dst hp) .undef) (put_defers _ _ _) ⟨_, rfl⟩ (.inl fun hc => nokeep hc)
   ·rename_i f args ha
    obtain ⟨args', hrun, hvl⟩ := hok.2.2.1 f args ha
    rw [hrun]
    rcases hev ρ w args' hr hvl with ⟨v', hrun2, r, H1, hq, ρ1, hs, hres⟩ | ⟨hrun2, hcalls⟩
    ·rw [hrun2]
     cases r with
     | ret v =>
      obtain ⟨v2, heq, hvr⟩ := hres
      cases heq
      exact hK _ _ ρ1 _ _ hq hs ((hf.step hs).put (prepOper_dst hp) hvr) (put_defers _ _ _) ⟨_, rfl⟩ (.inl fun hc => nokeep hc)
     | pan v =>
      obtain ⟨v2, heq, hvr⟩ := hres
      cases heq
    ·rw [hrun2]
     refine ⟨fr_depth, fr_calls (Calls.mono hcalls fun en w1 hen => ?_)⟩
     obtain ⟨r, H1, hq, ρ1, hs, hres⟩ := hen
     cases r with
     | ret v =>
      obtain ⟨v', rfl, hvr⟩ := hres
      exact hK _ _ ρ1 _ _ hq hs ((hf.step hs).put (prepOper_dst hp) hvr) (put_defers _ _ _) ⟨_, rfl⟩ (.inl fun hc => nokeep hc)
     | pan v =>
      obtain ⟨v', rfl, hvr⟩ := hres
      exact hP _ _ _ ρ1 _ hq hs hvr
   ·rename_i b args ha
    obtain ⟨args', hrun, hvl⟩ := yield_ok hop (w := w) hf ha
    rw [hrun]
    obtain ⟨f, tmps, assign, body, hrun2, hround⟩ := hev ρ w args' hr hvl
    rw [hrun2]
    refine ⟨fr_depth, fr_round (hround.mono fun en w1 hen => ?_)⟩
    obtain ⟨r, H1, hq, ρ1, hs, hres⟩ := hen
    cases r with
    | ret v =>
     obtain ⟨v', rfl, hvr⟩ := hres
     exact hK _ _ ρ1 _ _ hq hs ((hf.step hs).put (prepOper_dst hp) hvr) (put_defers _ _ _) ⟨_, rfl⟩ (.inl fun hc => nokeep hc)
    | pan v =>
     obtain ⟨v', rfl, hvr⟩ := hres
     exact hP _ _ _ ρ1 _ hq hs hvr
   ·rename_i v ha
    obtain ⟨v', hrun, hvr⟩ := hok.2.2.2 v ha
    rw [hrun]
    exact hP _ _ _ ρ _ hev (Step.refl hr) hvr
   ·exact hev.elim
end
section
variable {T : Pg} {N : Nat} {ρ : Nat → Place} {ops : Array Oper} {rd : Cx} {P : Program} {Q : Exit → Act → World → Prop} {a : Act}
theorem noDefer_spec {ops : Array Oper} (h : noDefer ops = true) {j : Nat} {o : Oper} (ho : ops[j]? = some o) : ∀ c, o.op ≠ .defer c := by
 intro c hc
 unfold noDefer at h
 rw [Array.all_eq_true] at h
 obtain ⟨hj, rfl⟩ := Array.getElem?_eq_some_iff.1 ho
 have := h j hj
 rw [hc] at this
 cases this
theorem yields_wpOp {i : Nat} {o : Oper} {v : Value} {a : Act} (hi : ops[i]? = some o) (hnd : ∀ c, o.op ≠ .defer c) (hy : Yields P ops o v a)
  {K : Act → World → Prop} {w : World} (h : K (a.put o.dst v) w) : wpOpIn (Fr rd) 0 P ops Q i K a w := by
 unfold Go.wpOpIn
 simp only [hi]
 rcases hy with ⟨hw, hv⟩ | ⟨hw, rfl⟩
 ·simp only [hw, if_true, Oper.wpIn]
  refine ⟨fr_about, ?_⟩
  rw [Oper.semAt_eq _ _ _ hnd, hv w]
  exact h
 ·simp only [hw, Bool.false_eq_true, if_false]
  exact ⟨fr_about, h⟩
theorem mild_newVar (t : TypeId) (v : Value) : Mild P (newVar t v) := by
 unfold newVar newRow
 repeat' (first | exact Mild.new _ | exact Mild.pure _ | trivial | refine Mild.bind ?_ fun _ => ?_)
theorem mild_newRow (t : TypeId) (v : Array Value) : Mild P (newRow t v) := by
 unfold newRow
 repeat' (first | exact Mild.new _ | exact Mild.pure _ | trivial | refine Mild.bind ?_ fun _ => ?_)
theorem Mild.forInL {α β : Type} {f : α → β → Sem (ForInStep β)} (h : ∀ a b, Mild P (f a b)) : ∀ (l : List α) (b : β), Mild P (forIn l b f)
 | [], b => by rw [List.forIn_nil]; exact Mild.pure _
 | a :: l, b => by
  rw [List.forIn_cons]
  refine .bind (h a b) fun s => ?_
  cases s with
  | done b => exact Mild.pure _
  | yield b => exact Mild.forInL h l b
theorem Mild.b2s (x : Value) : Mild P (Conv.bytesToString x) := by
 unfold Conv.bytesToString
 split
 ·exact Mild.pure _
 ·refine .bind (Mild.cellsFrom _ _ _ _) fun cs => ?_
  refine .bind ?_ fun s => Mild.pure _
  rw [← Array.forIn_toList]
  refine Mild.forInL (fun a b => ?_) _ _
  split
  ·exact Mild.pure _
  ·exact .bind (.stuck _) fun _ => Mild.pure _
 ·exact .stuck _
theorem alloc3_tame {o : Oper} (h : isAlloc3 P o.op = true) (ev : Operand → Value) : Tame P (execOp ev o) := by
 obtain ⟨dst, op, ty, pos, after, guard⟩ := o
 cases op <;> simp only [isAlloc3] at h <;> first | (cases h; done) | skip
 case convert sT dT x =>
  split at h
  ·rename_i el hs hd
   split at h
   ·rename_i hel
    refine .of ?_
    unfold Go.convert
    refine .und_bind hs (.und_bind hd ?_)
    cases ev x <;> dsimp only <;> first | exact Mild.pure _ | exact .und_bind hel (Mild.b2s _) | (unfold Conv.intToString; first | trivial | exact Mild.pure _)
   ·cases h
  ·cases h
 case alloc t =>
  refine .of ?_
  unfold Instr.alloc
  refine .bind (.zero _) fun z => ?_
  exact .bind (mild_newVar _ _) fun _ => trivial
 case box t x =>
  refine .of ?_
  unfold Instr.box
  exact .bind (mild_newVar _ _) fun _ => trivial
 case buildSlice t len parts =>
  refine .of ?_
  unfold Instr.buildSlice
  refine .bind (.und _) fun d => ?_
  split
  ·refine .bind (.size _) fun s => ?_
   dsimp only
   split
   ·exact .unsup _
   ·split
    ·refine .bind (Mild.pure _) fun z => ?_
     split
     ·exact .bind (mild_newRow _ _) fun _ => trivial
     ·exact .stuck _
    ·refine .bind (.zero _) fun v => .bind (Mild.pure _) fun z => ?_
     split
     ·exact .bind (mild_newRow _ _) fun _ => trivial
     ·exact .stuck _
  ·exact .stuck _
/-! ### Calls that leave alone what was read ahead of them -/
def SF (F : List (Nat × Nat)) (ops : Array Oper) (j : Nat) (w w' : World) : Prop :=
 ∀ q ∈ F, ((Region.before ops).getD j 0).testBit q.1 = false → (∃ o, ops[j]? = some o ∧ isCallv o.op = true) → w'.heap[q.2]? = w.heap[q.2]?
theorem SF.refl {F : List (Nat × Nat)} {j : Nat} {w : World} : SF F ops j w w := fun _ _ _ _ => rfl
def wpAnyF (rd : Cx) (P : Program) (F : List (Nat × Nat)) (ops : Array Oper) (Q : Exit → Act → World → Prop) : Nat → Array Bool → Act → World → Prop
 | 0, listed, a, w => Region.ready .any ops listed = [] ∧ Q .normal a w
 | fuel + 1, listed, a, w => (Region.ready .any ops listed = [] → Q .normal a w) ∧
  ∀ i ∈ Region.ready .any ops listed, wpOpIn (Fr rd) 0 P ops Q i (fun a' w' => SF F ops i w w' ∧ wpAnyF rd P F ops Q fuel (listed.setIfInBounds i true) a' w') a w
theorem wpAnyF.any {F : List (Nat × Nat)} : ∀ (fuel : Nat) (listed : Array Bool) (a : Act) (w : World), wpAnyF rd P F ops Q fuel listed a w → wpAnyIn (Fr rd) 0 P .any ops Q fuel listed a w
 | 0, _, _, _, h => h
 | fuel + 1, _, _, _, h => ⟨h.1, fun i hi => wpOpIn_mono (fun a' w' h' => wpAnyF.any fuel _ a' w' h'.2) (h.2 i hi)⟩
theorem wpAnyF.less {F F' : List (Nat × Nat)} (hF : ∀ q ∈ F, q ∈ F') : ∀ (fuel : Nat) (listed : Array Bool) (a : Act) (w : World), wpAnyF rd P F' ops Q fuel listed a w → wpAnyF rd P F ops Q fuel listed a w
 | 0, _, _, _, h => h
 | fuel + 1, _, _, _, h => ⟨h.1, fun i hi => wpOpIn_mono (fun a' w' h' => ⟨fun q hq => h'.1 q (hF q hq), wpAnyF.less hF fuel _ a' w' h'.2⟩) (h.2 i hi)⟩
theorem wpAnyF.done {F : List (Nat × Nat)} {listed : Array Bool} {a : Act} {w : World} (hr : Region.ready .any ops listed = []) (hq : Q .normal a w) : ∀ fuel, wpAnyF rd P F ops Q fuel listed a w
 | 0 => ⟨hr, hq⟩
 | fuel + 1 => ⟨fun _ => hq, fun i hi => by rw [hr] at hi; cases hi⟩
theorem firstF {i : Nat} {oi : Oper} {v : Value} {F F' : List (Nat × Nat)} (hF : ∀ q ∈ F, q ∈ F') (C : Act → World → Prop) (U : Nat → Prop)
  (hy : ∀ a w, C a w → ∀ K : Act → World → Prop, K (a.put oi.dst v) w → wpOpIn (Fr rd) 0 P ops Q i K a w)
  (hstep : ∀ j, U j → ∀ a w (K : Act → World → Prop), C a w → wpOpIn (Fr rd) 0 P ops Q j (fun a' w' => SF F' ops j w w' ∧ K a' w') (a.put oi.dst v) w →
   wpOpIn (Fr rd) 0 P ops Q j (fun a' w' => C a' w' ∧ SF F ops j w w' ∧ K (a'.put oi.dst v) w') a w) :
  ∀ (fuel : Nat) (listed : Array Bool) (a : Act) (w : World), Closed ops listed →
   (∀ (j : Nat) (oj : Oper), ops[j]? = some oj → j ≠ i → listed.getD j true = false → ((Region.before ops).getD j 0).testBit i = false → (∀ e ∈ oj.after, Region.binds .any e = true → e.on ≠ i) → U j) →
   i ∈ Region.ready .any ops listed → C a w →
   wpAnyF rd P F' ops Q fuel (listed.setIfInBounds i true) (a.put oi.dst v) w → wpAnyF rd P F ops Q (fuel + 1) listed a w := by
 intro fuel
 induction fuel with
 | zero =>
  intro listed a w hc _ hr hC H
  refine ⟨fun h => (by rw [h] at hr; cases hr), fun j hj => ?_⟩
  by_cases hji : j = i
  ·subst hji; exact hy a w hC _ ⟨SF.refl, H⟩
  ·have := ready_mono hj hji
   rw [H.1] at this
   cases this
 | succ fuel ih =>
  intro listed a w hc hV hr hC H
  refine ⟨fun h => (by rw [h] at hr; cases hr), fun j hj => ?_⟩
  by_cases hji : j = i
  ·subst hji; exact hy a w hC _ ⟨SF.refl, wpAnyF.less hF _ _ _ _ H⟩
  ·have h1 := H.2 j (ready_mono hj hji)
   have hun := unlisted_getD (mem_ready.1 hr).1
   obtain ⟨hj0, oj, hoj, hall⟩ := mem_ready.1 hj
   have hUj : U j := by
    refine hV j oj hoj hji hj0 ?_ fun e he hb heq => ?_
    ·cases hb : ((Region.before ops).getD j 0).testBit i with
     | false => rfl
     | true =>
      have := behind_listed hc j i hb fun o ho => by rw [hoj] at ho; cases ho; exact hall
      rw [hun] at this; cases this
    ·have := hall e he hb
     rw [heq, hun] at this; cases this
   have h2 := hstep j hUj a w _ hC h1
   refine wpOpIn_mono (fun a' w' h3 => ⟨h3.2.1, ?_⟩) h2
   refine ih (listed.setIfInBounds j true) a' w' (closed_list hc hj) (fun k ok hk hki hkun hb hd => ?_) (ready_mono hr (Ne.symm hji)) h3.1 ?_
   ·refine hV k ok hk hki ?_ hb hd
    by_cases hjk : j = k
    ·subst hjk; exact hj0
    ·rw [getD_set_ne true hjk] at hkun; exact hkun
   ·rw [Array.setIfInBounds_comm _ _ hji]
    exact h3.2.2
/-- What stays as it was, whatever an operation that is apart writes. -/
theorem pass {j : Nat} {oi oj : Oper} {v : Value} (Y : Act → Prop) (hj : ops[j]? = some oj) (hnd : ∀ c, oj.op ≠ .defer c) (hap : oi.apart ops oj = true)
  (hsj : ∀ cs b, oj.op ≠ .select cs b)
  (keep : ∀ (a : Act), Y a → ∀ u, Y (a.put oj.dst u)) (keepD : ∀ (a : Act), Y a → ∀ d, Y { a with defers := d :: a.defers })
  (hQ : ∀ c a w, Q (.panic c) (a.put oi.dst v) w → Q (.panic c) a w) {K : Act → World → Prop} {a : Act} {w : World}
  (hy : Y a) (h : wpOpIn (Fr rd) 0 P ops Q j K (a.put oi.dst v) w) :
  wpOpIn (Fr rd) 0 P ops Q j (fun a' w' => Y a' ∧ K (a'.put oi.dst v) w') a w := by
 obtain ⟨h1, h2, h3⟩ := Oper.apart_spec hap
 unfold wpOpIn at *
 simp only [hj] at *
 rw [wanted_put oj a oi.dst v h1] at h
 split
 ·rename_i hw
  simp only [hw, if_true] at h
  unfold Oper.wpIn at *
  refine ⟨fr_about, ?_⟩
  have h := h.2
  rw [Oper.semAt_eq _ _ _ hnd, execOp_put oj hsj a oi.dst v h1] at h
  rw [Oper.semAt_eq _ _ _ hnd]
  generalize (execOp a.eval oj).run P w = r at *
  cases r with
  | ok x w' =>
   cases x <;> simp only [Oper.uponIn] at h ⊢
   case value u => exact ⟨keep a hy u, by rw [← Act.put_comm a v u h2]; exact h⟩
   case skip => exact ⟨keep a hy _, by rw [← Act.put_comm a v undef h2]; exact h⟩
   case defer d =>
    refine ⟨keep _ (keepD a hy d) _, ?_⟩
    rw [← Act.put_comm _ v undef h2, ← Act.put_defers]
    exact h
   case enter f args =>
    refine ⟨h.1, CallsIn.mono h.2 fun e w'' he => ?_⟩
    cases e with
    | returned u => exact ⟨keep a hy u, by rw [← Act.put_comm a v u h2]; exact he⟩
    | panicked c => exact hQ _ _ _ he
    | outgrown => exact he
   case row row args => exact ⟨h.1, RowsIn.mono h.2 fun u w'' he => ⟨keep a hy u, by rw [← Act.put_comm a v u h2]; exact he⟩⟩
   case round l f tmps assign body =>
    refine ⟨h.1, RoundIn.mono h.2 fun e w'' he => ?_⟩
    cases e with
    | returned u => exact ⟨keep a hy u, by rw [← Act.put_comm a v u h2]; exact he⟩
    | panicked c => exact hQ _ _ _ he
    | outgrown => exact he
  | halt x w' =>
   cases x <;> simp only [Oper.uponIn] at h ⊢
   case panic u => exact hQ _ _ _ h
 ·rename_i hw
  simp only [hw] at h
  exact ⟨fr_about, keep a hy _, by rw [← Act.put_comm a v undef h2]; exact h.2⟩
/-- The other way round: what was put there before may be put there afterwards. -/
theorem put_back {j : Nat} {oj : Oper} {dst : Option Tmp} {v : Value} (hj : ops[j]? = some oj) (hnd : ∀ c, oj.op ≠ .defer c) (h1 : ∀ d, dst = some d → d ∉ oj.looksAt ops) (h2 : ∀ d, dst = some d → oj.dst ≠ some d)
  (hsj : ∀ cs b, oj.op ≠ .select cs b)
  (hQ : ∀ c w, Q (.panic c) a w → Q (.panic c) (a.put dst v) w) {K : Act → World → Prop} {w : World}
  (h : wpOpIn (Fr rd) 0 P ops Q j (fun a' w' => K (a'.put dst v) w') a w) : wpOpIn (Fr rd) 0 P ops Q j K (a.put dst v) w := by
 unfold wpOpIn at *
 simp only [hj] at *
 rw [wanted_put oj a dst v h1]
 split
 ·rename_i hw
  simp only [hw, if_true] at h
  unfold Oper.wpIn at *
  refine ⟨fr_about, ?_⟩
  have h := h.2
  rw [Oper.semAt_eq _ _ _ hnd] at h
  rw [Oper.semAt_eq _ _ _ hnd, execOp_put oj hsj a dst v h1]
  generalize (execOp a.eval oj).run P w = r at *
  cases r with
  | ok x w' =>
   cases x <;> simp only [Oper.uponIn] at h ⊢
   case value u => rw [Act.put_comm a v u h2]; exact h
   case skip => rw [Act.put_comm a v undef h2]; exact h
   case defer d =>
    have e : ({ a.put dst v with defers := d :: (a.put dst v).defers } : Act) = ({ a with defers := d :: a.defers } : Act).put dst v := by
     cases dst <;> rfl
    rw [e, Act.put_comm _ v undef h2]
    exact h
   case enter f args =>
    refine ⟨h.1, CallsIn.mono h.2 fun e w'' he => ?_⟩
    cases e with
    | returned u => simp only at he ⊢; rw [Act.put_comm a v u h2]; exact he
    | panicked c => exact hQ _ _ he
    | outgrown => exact he
   case row row args => exact ⟨h.1, RowsIn.mono h.2 fun u w'' he => by rw [Act.put_comm a v u h2]; exact he⟩
   case round l f tmps assign body =>
    refine ⟨h.1, RoundIn.mono h.2 fun e w'' he => ?_⟩
    cases e with
    | returned u => simp only at he ⊢; rw [Act.put_comm a v u h2]; exact he
    | panicked c => exact hQ _ _ he
    | outgrown => exact he
  | halt x w' =>
   cases x <;> simp only [Oper.uponIn] at h ⊢
   case panic u => exact hQ _ _ h
 ·rename_i hw
  simp only [hw] at h
  exact ⟨fr_about, by rw [Act.put_comm a v undef h2]; exact h.2⟩
/-- What writes no cell that is there. -/
theorem tame_pass {j : Nat} {oj : Oper} (hj : ops[j]? = some oj) (hnd : ∀ c, oj.op ≠ .defer c) {a : Act} {w : World} (ht : Tame P (execOp a.eval oj)) {K : Act → World → Prop} (h : wpOpIn (Fr rd) 0 P ops Q j K a w) :
  wpOpIn (Fr rd) 0 P ops Q j (fun a' w' => (∀ (b : Nat) (o : Obj), w.heap[b]? = some o → w'.heap[b]? = some o) ∧ K a' w') a w := by
 unfold wpOpIn at *
 simp only [hj] at *
 split
 ·rename_i hw
  simp only [hw, if_true] at h
  unfold Oper.wpIn at *
  refine ⟨fr_about, ?_⟩
  have h := h.2
  rw [Oper.semAt_eq _ _ _ hnd] at h ⊢
  cases hrun : (execOp a.eval oj).run P w with
  | halt x w' =>
   rw [hrun] at h
   cases x <;> simp only [Oper.uponIn] at h ⊢
   exact h
  | ok x w' =>
   rw [hrun] at h
   obtain ⟨⟨u, rfl⟩, hheap⟩ := ht w x w' hrun
   simp only [Oper.uponIn] at h ⊢
   exact ⟨hheap, h⟩
 ·rename_i hw
  simp only [hw] at h
  exact ⟨fr_about, fun _ _ h => h, h.2⟩
/-- What a load is passed by. -/
def LoadC (P : Program) (ops : Array Oper) (oi : Oper) (a0 : Act) (p : Addr) (m : Nat) (chk : List (Nat × Nat)) (w0 : World) (a : Act) (w : World) : Prop :=
 (execOp a.eval oi = execOp a0.eval oi ∧ Region.wanted oi (yielded ops a.tmps) = true) ∧ (∀ k, k < m → w.cell? (p.add k) = w0.cell? (p.add k)) ∧ (∀ k, k < m → (w0.cell? (p.add k)).isSome = true) ∧
  (∀ c ∈ chk, ∃ q, a.tmps.getD c.1 undef = .pointer (some q) ∧ Away w p m q c.2)
theorem cell_keep {w w' : World} (hw : ∀ (b : Nat) (o : Obj), w.heap[b]? = some o → w'.heap[b]? = some o) (q : Addr) (hq : (w.cell? q).isSome = true) : w'.cell? q = w.cell? q := by
 unfold World.cell? at hq ⊢
 cases hb : w.heap[q.block]? with
 | none => rw [hb] at hq; cases hq
 | some o => rw [hw _ _ hb]
/-- A load is passed by an operation that leaves its cells alone. -/
theorem load_pass {F F' : List (Nat × Nat)} (hF : ∀ q ∈ F, q ∈ F') {i : Nat} {oi : Oper} {v : Value} {p : Addr} {m : Nat} {chk : List (Nat × Nat)} {a0 : Act} {w0 : World}
  (hQ : ∀ c a a' w, Q (.panic c) a w → a'.defers = a.defers → SameK rd.keep a a' → Q (.panic c) a' w) (hdk : ∀ d, oi.dst = some d → d ∉ rd.keep)
  (hsi : ∀ cs b, oi.op ≠ .select cs b)
  {j : Nat} {oj : Oper} (hj : ops[j]? = some oj) (hnd : ∀ c, oj.op ≠ .defer c) (hsj : ∀ cs b, oj.op ≠ .select cs b) (hap : oi.apart ops oj = true) (hdst : ∀ c ∈ chk, oj.dst ≠ some c.1)
  (hbef : ((Region.before ops).getD j 0).testBit i = false) (hp0 : p.spot = none)
  (hkind : stillOp P oj.op = true ∨ isAlloc3 P oj.op = true ∨ (isCallv oj.op = true ∧ chk = [] ∧ (i, p.block) ∈ F') ∨ ∃ t ta xv k, oj.op = .store t (.tmp ta) xv ∧ szOf P t = some k ∧ (ta, k) ∈ chk)
  (a : Act) (w : World) (K : Act → World → Prop) (hC : LoadC P ops oi a0 p m chk w0 a w)
  (h : wpOpIn (Fr rd) 0 P ops Q j (fun a' w' => SF F' ops j w w' ∧ K a' w') (a.put oi.dst v) w) :
  wpOpIn (Fr rd) 0 P ops Q j (fun a' w' => LoadC P ops oi a0 p m chk w0 a' w' ∧ SF F ops j w w' ∧ K (a'.put oi.dst v) w') a w := by
 obtain ⟨⟨c1, c1w⟩, c2, c3, c4⟩ := hC
 obtain ⟨h1, h2, h3⟩ := Oper.apart_spec hap
 let Y : Act → Prop := fun a' => (execOp a'.eval oi = execOp a0.eval oi ∧ Region.wanted oi (yielded ops a'.tmps) = true) ∧ ∀ c ∈ chk, a'.tmps.getD c.1 undef = a.tmps.getD c.1 undef
 have keepY : ∀ (a' : Act), Y a' → ∀ u, Y (a'.put oj.dst u) := fun a' hy u => by
  refine ⟨⟨by rw [execOp_put oi hsi a' oj.dst u h3, hy.1.1], by rw [wanted_put oi a' oj.dst u h3, hy.1.2]⟩, fun c hc => ?_⟩
  rw [← hy.2 c hc]
  cases hd : oj.dst with
  | none => rfl
  | some d =>
   have hne : d ≠ c.1 := fun e => hdst c hc (by rw [hd, e])
   simp [Act.put, Array.getElem?_setIfInBounds_ne hne]
 have hpass := pass (rd := rd) (Q := Q) (oi := oi) (v := v) Y hj hnd hap hsj keepY (fun a' hy d => hy) (fun c a' w' hq => hQ c _ _ w' hq (by simp [put_defers]) (SameK.put hdk).symm) ⟨⟨c1, c1w⟩, fun _ _ => rfl⟩ h
 have here : ∀ k, k < m → (w.cell? (p.add k)).isSome = true := fun k hk => by rw [c2 k hk]; exact c3 k hk
 have sf : ∀ w', SF F' ops j w w' → SF F ops j w w' := fun w' hs q hq => hs q (hF q hq)
 rcases hkind with hst | hal | ⟨hcall, hchk, hin⟩ | ⟨t, ta, xv, k, hop, hsz, hmem⟩
 ·refine wpOpIn_mono (fun a' w' hh => ?_) (tame_pass hj hnd (still_tame hst a.eval) hpass)
  obtain ⟨hold, hy, hsf, hK⟩ := hh
  refine ⟨⟨hy.1, fun k hk => by rw [cell_keep hold _ (here k hk), c2 k hk], c3, fun c hc => ?_⟩, sf _ hsf, hK⟩
  obtain ⟨q, hq, g1, g2, g3⟩ := c4 c hc
  exact ⟨q, by rw [hy.2 c hc]; exact hq, g1, fun j hj => by rw [cell_keep hold _ (g2 j hj)]; exact g2 j hj, g3⟩
 ·refine wpOpIn_mono (fun a' w' hh => ?_) (tame_pass hj hnd (alloc3_tame hal a.eval) hpass)
  obtain ⟨hold, hy, hsf, hK⟩ := hh
  refine ⟨⟨hy.1, fun k hk => by rw [cell_keep hold _ (here k hk), c2 k hk], c3, fun c hc => ?_⟩, sf _ hsf, hK⟩
  obtain ⟨q, hq, g1, g2, g3⟩ := c4 c hc
  exact ⟨q, by rw [hy.2 c hc]; exact hq, g1, fun j hj => by rw [cell_keep hold _ (g2 j hj)]; exact g2 j hj, g3⟩
 ·refine wpOpIn_mono (fun a' w' hh => ?_) hpass
  obtain ⟨hy, hsf, hK⟩ := hh
  have hsame := hsf _ hin hbef ⟨oj, hj, hcall⟩
  refine ⟨⟨hy.1, fun k hk => ?_, c3, fun c hc => (by rw [hchk] at hc; cases hc)⟩, sf _ hsf, hK⟩
  rw [← c2 k hk]
  have hblk : (p.add k).block = p.block := by unfold Addr.add; split <;> rfl
  unfold World.cell?
  rw [hblk, hsame]
 ·-- a store
  obtain ⟨q, hq, g1, g2, g3⟩ := c4 _ hmem
  obtain ⟨dj, opj, tyj, posj, afj, guj⟩ := oj
  simp only at hop
  subst hop
  have hev : a.eval (.tmp ta) = .pointer (some q) := hq
  unfold wpOpIn at hpass ⊢
  simp only [hj] at hpass ⊢
  split
  ·rename_i hw
   simp only [hw, if_true] at hpass
   unfold Oper.wpIn at hpass ⊢
   refine ⟨fr_about, ?_⟩
   have hp := hpass.2
   rw [Oper.semAt_eq _ _ _ hnd] at hp ⊢
   cases hrun : (execOp a.eval ⟨dj, .store t (.tmp ta) xv, tyj, posj, afj, guj⟩).run P w with
   | halt x w' =>
    rw [hrun] at hp
    cases x <;> simp only [Oper.uponIn] at hp ⊢
    exact hp
   | ok x w' =>
    rw [hrun] at hp
    simp only [execOp, Instr.storeAt, hev, Instr.sureAddr, storeVar, Sem.run_bind, Sem.run_pure, Result.andThen_ok, run_size hsz] at hrun
    by_cases hsize : (a.eval xv).cells.size = k
    ·rw [if_neg (by simpa using hsize)] at hrun
     cases hst : (storeCells q (a.eval xv).cells.toList 0).run P w with
     | halt y w1 => simp only [hst] at hrun; cases hrun
     | ok y w1 =>
      simp only [hst, Result.andThen_ok] at hrun
      cases hrun
      obtain ⟨l1, l2⟩ := stores_leave _ q 0 w w' g1 (fun j hj => by rw [Nat.zero_add]; exact g2 j (by simpa [hsize] using hj)) hst
      simp only [Oper.uponIn] at hp ⊢
      obtain ⟨hy, hsf, hK⟩ := hp
      have same : ∀ i, i < m → w'.cell? (p.add i) = w.cell? (p.add i) := fun i hi => l1 _ fun j hj => by rw [Nat.zero_add]; exact g3 i j hi (by simpa [hsize] using hj)
      refine ⟨⟨hy.1, fun i hi => by rw [same i hi, c2 i hi], c3, fun c hc => ?_⟩, sf _ hsf, hK⟩
      obtain ⟨q', hq', f1, f2, f3⟩ := c4 c hc
      exact ⟨q', by rw [hy.2 c hc]; exact hq', f1, fun j hj => l2 _ (f2 j hj), f3⟩
    ·rw [if_pos (by simpa using hsize)] at hrun
     simp at hrun
  ·rename_i hw
   simp only [hw] at hpass
   obtain ⟨_, hy, hsf, hK⟩ := hpass
   refine ⟨fr_about, ⟨hy.1, c2, c3, fun c hc => ?_⟩, sf _ hsf, hK⟩
   obtain ⟨q', hq', f⟩ := c4 c hc
   exact ⟨q', by rw [hy.2 c hc]; exact hq', f⟩
end
section
variable {T : Pg} {N : Nat} {ρ : Nat → Place} {ops : Array Oper} {rd : Cx} {P : Program} {G : Nat}
abbrev Early := List (Nat × Nat × Nat)
def pa : Early → Act → Act
 | [], a => a
 | (_, d, D) :: E, a => (pa E a).put (some d) (.pointer (some ⟨D, 0, none⟩))
def lc : Early → Array Bool → Array Bool
 | [], l => l
 | (i, _, _) :: E, l => (lc E l).setIfInBounds i true
theorem pa_put : ∀ (E : Early) (a : Act) (dst : Option Tmp) (v : Value), (∀ q ∈ E, dst ≠ some q.2.1) → (pa E a).put dst v = pa E (a.put dst v)
 | [], _, _, _, _ => rfl
 | (i, d, D) :: E, a, dst, v, h => by
  rw [pa, pa, ← pa_put E a dst v (fun q hq => h q (by simp [hq]))]
  exact Act.put_comm (pa E a) (.pointer (some ⟨D, 0, none⟩)) v (fun d' hd' => by cases hd'; exact h (i, d, D) (by simp))
theorem pa_append : ∀ (E1 E2 : Early) (a : Act), pa (E1 ++ E2) a = pa E1 (pa E2 a)
 | [], _, _ => rfl
 | (i, d, D) :: E1, E2, a => by rw [List.cons_append, pa, pa, pa_append E1 E2 a]
theorem pa_take (E1 E2 : Early) (i d D : Nat) (a : Act) (h : ∀ q ∈ E2, d ≠ q.2.1) : pa (E1 ++ (i, d, D) :: E2) a = pa (E1 ++ E2) (a.put (some d) (.pointer (some ⟨D, 0, none⟩))) := by
 rw [pa_append, pa_append, pa, pa_put E2 a (some d) _ (fun q hq e => h q hq (Option.some.inj e))]
theorem lc_append : ∀ (E1 E2 : Early) (l : Array Bool), lc (E1 ++ E2) l = lc E1 (lc E2 l)
 | [], _, _ => rfl
 | (i, d, D) :: E1, E2, l => by rw [List.cons_append, lc, lc, lc_append E1 E2 l]
theorem lc_set : ∀ (E : Early) (l : Array Bool) (i : Nat), (∀ q ∈ E, i ≠ q.1) → (lc E l).setIfInBounds i true = lc E (l.setIfInBounds i true)
 | [], _, _, _ => rfl
 | (j, d, D) :: E, l, i, h => by
  rw [lc, lc, ← lc_set E l i (fun q hq => h q (by simp [hq])), Array.setIfInBounds_comm _ _ (fun e => h (j, d, D) (by simp) e.symm)]
theorem lc_take (E1 E2 : Early) (i d D : Nat) (l : Array Bool) (h : ∀ q ∈ E2, i ≠ q.1) : lc (E1 ++ (i, d, D) :: E2) l = lc (E1 ++ E2) (l.setIfInBounds i true) := by
 rw [lc_append, lc_append, lc, lc_set E2 l i h]
theorem lc_size : ∀ (E : Early) (l : Array Bool), (lc E l).size = l.size
 | [], _ => rfl
 | (i, d, D) :: E, l => by rw [lc, Array.size_setIfInBounds, lc_size E l]
theorem lc_true : ∀ (E : Early) (l : Array Bool) (x : Nat), (lc E l).getD x false = true → l.getD x false = true ∨ (x < l.size ∧ ∃ q ∈ E, q.1 = x)
 | [], _, _, h => .inl h
 | (i, d, D) :: E, l, x, h => by
  by_cases hx : i = x
  ·subst hx
   right
   refine ⟨?_, (i, d, D), by simp, rfl⟩
   rw [lc] at h
   rcases Nat.lt_or_ge i l.size with q | q
   ·exact q
   ·rw [Array.getD_eq_getD_getElem?, Array.getElem?_eq_none (by rw [Array.size_setIfInBounds, lc_size]; exact q)] at h
    cases h
  ·rw [lc, getD_set_ne false hx] at h
   rcases lc_true E l x h with h | ⟨h1, q, hq, h2⟩
   ·exact .inl h
   ·exact .inr ⟨h1, q, by simp [hq], h2⟩
theorem lc_unlisted : ∀ (E : Early) (l : Array Bool) (x : Nat), (lc E l).getD x true = false → l.getD x true = false
 | [], _, _, h => h
 | (i, d, D) :: E, l, x, h => by
  by_cases hx : i = x
  ·subst hx
   refine lc_unlisted E l i ?_
   rw [lc] at h
   rcases Nat.lt_or_ge i (lc E l).size with q | q
   ·simp [q] at h
   ·rw [Array.getD_eq_getD_getElem?, Array.getElem?_eq_none (by rw [Array.size_setIfInBounds]; exact q)] at h
    cases h
  ·rw [lc, getD_set_ne true hx] at h
   exact lc_unlisted E l x h
theorem lc_not : ∀ (E : Early) (l : Array Bool) (x : Nat), (∀ q ∈ E, x ≠ q.1) → (lc E l).getD x true = l.getD x true
 | [], _, _, _ => rfl
 | (i, d, D) :: E, l, x, h => by
  rw [lc, getD_set_ne true (fun e => h (i, d, D) (by simp) e.symm)]
  exact lc_not E l x fun q hq => h q (by simp [hq])
theorem ready_le {A B : Array Bool} (h : ∀ x, A.getD x false = true → B.getD x false = true) {j : Nat} (hj : j ∈ Region.ready .any ops A) (hn : B.getD j true = false) : j ∈ Region.ready .any ops B := by
 obtain ⟨_, o, ho, hall⟩ := mem_ready.1 hj
 exact mem_ready.2 ⟨hn, o, ho, fun e he hb => h _ (hall e he hb)⟩
theorem fold_true : ∀ (L : List Nat) (A : Array Bool) (x : Nat), (A.getD x false = true ∨ (x < A.size ∧ x ∈ L)) → (L.foldl (fun l i => l.setIfInBounds i true) A).getD x false = true
 | [], A, x, h => by
  rcases h with h | ⟨_, h⟩
  ·exact h
  ·cases h
 | i :: L, A, x, h => by
  rw [List.foldl_cons]
  refine fold_true L _ x ?_
  by_cases hx : i = x
  ·subst hx
   rcases h with h | ⟨h, _⟩
   ·exact .inl (getD_set_true h)
   ·left; simp [h]
  ·rcases h with h | ⟨h1, h2⟩
   ·exact .inl (getD_set_true h)
   ·rcases List.mem_cons.1 h2 with rfl | h2
    ·exact absurd rfl hx
    ·exact .inr ⟨by simpa using h1, h2⟩
theorem fold_not : ∀ (L : List Nat) (A : Array Bool) (x : Nat), x ∉ L → (L.foldl (fun l i => l.setIfInBounds i true) A).getD x true = A.getD x true
 | [], _, _, _ => rfl
 | i :: L, A, x, h => by
  rw [List.foldl_cons, fold_not L _ x (fun q => h (by simp [q])), getD_set_ne true (fun e => h (by simp [e]))]
/-- What has been laid ahead of its turn. -/
structure EOne (T : Pg) (N : Nat) (ops : Array Oper) (listed : Array Bool) (e : Env) (H : Heap) (ρ : Nat → Place) (n0 : Nat) (w : World) (q : Nat × Nat × Nat) : Prop where
 ready : q.1 ∈ Region.ready .any ops listed
 isA : isAat ops q.1 = true
 laid : ∃ (o : Oper) (ao : AOp) (row : List Value) (cells : Array Value) (t : TypeId), ops[q.1]? = some o ∧ o.dst = some q.2.1 ∧ prepOp T.P N T.G o.op = some ao ∧
  (∀ e' : Env, (∀ x : Operand, x ∈ o.op.operands → aev e' x = aev e x) → ∀ H' : Heap, aop e' H' ao = .val (.pointer (some ⟨H'.length, 0, none⟩)) (H' ++ [.row row 0 true])) ∧
  VL H.length ρ row cells.toList ∧ w.heap[q.2.2]? = some (.cells cells t (0, 0))
 late : n0 ≤ q.2.2
 noFoot : ¬ Foot ρ H q.2.2
 noLive : ∀ (b : Nat) (o : AObj), H[b]? = some o → o.live = true → (ρ b).blk ≠ q.2.2
theorem isAat_spec {i : Nat} (h : isAat ops i = true) : ∃ o d, ops[i]? = some o ∧ isA o = true ∧ o.guard = none ∧ o.dst = some d ∧ stillOp P o.op = false ∧ isCallv o.op = false ∧ isLoad o.op = false := by
 unfold isAat at h
 split at h
 ·rename_i o ho
  have h0 := h
  simp only [isA, Bool.and_eq_true] at h
  obtain ⟨⟨h1, h2⟩, h3⟩ := h
  obtain ⟨d, hd⟩ := Option.isSome_iff_exists.1 h2
  refine ⟨o, d, ho, h0, by simpa using h1, hd, ?_, ?_, ?_⟩ <;> (split at h3 <;> first | (rename_i hop; rw [hop]; rfl) | cases h3)
 ·cases h
/-- Laying a block. -/
theorem alloc_run {o : Oper} {ao : AOp} {e : Env} {a : Act} {H : Heap} (hop : prepOp P N G o.op = some ao) (hA : isA o = true) (hf : Fits G N H.length ρ e a) :
  ∃ (row : List Value) (cells : Array Value) (t : TypeId), (∀ e' : Env, (∀ x : Operand, x ∈ o.op.operands → aev e' x = aev e x) → ∀ H' : Heap, aop e' H' ao = .val (.pointer (some ⟨H'.length, 0, none⟩)) (H' ++ [.row row 0 true])) ∧
   VL H.length ρ row cells.toList ∧ ∀ w, (execOp a.eval o).run P w = .ok (.value (.pointer (some ⟨w.heap.size, 0, none⟩))) (w.alloc (.cells cells t (0, 0))) := by
 obtain ⟨dst, op, ty, pos, after, guard⟩ := o
 simp only [isA, Bool.and_eq_true] at hA
 cases op <;> first | (exact absurd hA.2 Bool.false_ne_true) | skip
 case alloc t =>
  simp only [prepOp] at hop
  obtain ⟨z, hz, rfl⟩ := Option.map_eq_some_iff.1 hop
  obtain ⟨zv, hrun, hzc, _, _⟩ := run_zero hz
  refine ⟨z, zv.cells, t, fun e' _ H' => rfl, ?_, fun w => ?_⟩
  ·rw [hzc]; exact VL.closed (zero_closed hz)
  ·simp [execOp, Instr.alloc, hrun, newVar, newRow]
 case box t x =>
  simp only [prepOp] at hop
  split at hop
  ·rename_i hx
   cases hop
   refine ⟨cellsOf (aev e x), (a.eval x).cells, t, fun e' he H' => ?_, (hf.op hx).cells, fun w => ?_⟩
   ·simp only [aop]
    rw [he x (by simp [Op.operands])]
   ·simp [execOp, Instr.box, newVar, newRow]
  ·cases hop
theorem aev_put {e : Env} {dst : Option Nat} {v : Value} {x : Operand} (h : ∀ d, dst = some d → x ≠ .tmp d) : aev (putO e dst v) x = aev e x := by
 cases dst with
 | none => rfl
 | some d =>
  cases x with
  | tmp t => simp only [aev, putO, get_put]; rw [if_neg (fun q => h d rfl (by rw [q]))]
  | const _ => rfl
  | global _ => rfl
  | func _ => rfl
theorem EOne.put {listed : Array Bool} {e : Env} {H : Heap} {n0 : Nat} {w : World} {q : Nat × Nat × Nat} (h : EOne T N ops listed e H ρ n0 w q) {k : Nat} {ok : Oper} (hk : k ≠ q.1) (hap : ∀ oq, ops[q.1]? = some oq → oq.apart ops ok = true)
  {e1 : Env} (he1 : ∃ v, e1 = putO e ok.dst v) {H1 : Heap} {ρ1 : Nat → Place} {w1 : World} (hs : Step T.G ρ H w ρ1 H1 w1) : EOne T N ops (listed.setIfInBounds k true) e1 H1 ρ1 n0 w1 q := by
 obtain ⟨o, ao, row, cells, t, h1, h2, h3, h4, h5, h6⟩ := h.laid
 have hlt : q.2.2 < w.heap.size := (Array.getElem?_eq_some_iff.1 h6).1
 obtain ⟨v, rfl⟩ := he1
 obtain ⟨_, _, a3⟩ := Oper.apart_spec (hap o h1)
 refine ⟨ready_mono h.ready (Ne.symm hk), h.isA, ⟨o, ao, row, cells, t, h1, h2, h3, fun e' he' H' => h4 e' (fun x hx => ?_) H', h5.mono hs.len hs.same, by rw [hs.frame _ hlt h.noFoot]; exact h6⟩, h.late, fun hf => ?_, fun b o' hb hl he => ?_⟩
 ·rw [he' x hx]
  refine aev_put fun d hd hxd => a3 d hd ?_
  subst hxd
  exact List.mem_append_left _ (List.mem_filterMap.2 ⟨.tmp d, by simpa using hx, rfl⟩)
 ·exact (hs.fresh _ hf).elim h.noFoot (fun z => by omega)
 ·rcases hs.lives b o' hb hl with ⟨u, hu, hul⟩ | hf | hz
  ·have := (List.getElem?_eq_some_iff.1 hu).1
   rw [hs.same b this] at he
   exact h.noLive b u hu hul he
  ·rw [he] at hf; exact h.noFoot hf
  ·rw [he] at hz; omega
/-- A block that was laid before comes in order. -/
theorem adopt {ρ0 : Nat → Place} {H0 H : Heap} {w0 w : World} (hs : Step G ρ0 H0 w0 ρ H w) {D : Nat} {row : List Value} {cells : Array Value} {t : TypeId} (hD : w0.heap.size ≤ D)
  (hl : ∀ (b : Nat) (o : AObj), H[b]? = some o → o.live = true → (ρ b).blk ≠ D) (hh : w.heap[D]? = some (.cells cells t (0, 0))) (hv : VL H.length ρ row cells.toList) :
  Step G ρ0 H0 w0 (ext ρ H.length ⟨D, 0, 0⟩) (H ++ [.row row 0 true]) w := by
 have cases_ : ∀ b u, (H ++ [AObj.row row 0 true])[b]? = some u → (b < H.length ∧ H[b]? = some u) ∨ (b = H.length ∧ u = .row row 0 true) := fun b u h => by
  by_cases hb : b < H.length
  ·rw [List.getElem?_append_left hb] at h; exact .inl ⟨hb, h⟩
  ·rw [List.getElem?_append_right (by omega)] at h
   obtain ⟨h1, h2⟩ := List.getElem?_eq_some_iff.1 h
   simp at h1
   have : b = H.length := by omega
   subst this
   simp at h2
   exact .inr ⟨rfl, h2.symm⟩
 have hlen : (H ++ [AObj.row row 0 true]).length = H.length + 1 := by simp
 refine ⟨⟨fun b u hu => ?_, fun b c u v hu hv' hne hw hlv => ?_, fun g hg => ?_, by rw [hlen]; have := hs.rel.many; omega⟩, by rw [hlen]; have := hs.len; omega, fun b hb => ?_, hs.os, hs.tape, hs.output, hs.size, hs.frame, fun c hc => ?_, hs.loops, fun c u hu hlv => ?_⟩
 ·rcases cases_ b u hu with ⟨hb, hu⟩ | ⟨rfl, rfl⟩
  ·exact (hs.rel.obj b u hu).mono (by omega) (ext_lt hb) (fun c hc => ext_lt hc) (fun _ => rfl)
  ·rw [OR, ext_same]
   refine ⟨cells, t, (0, 0), hh, fun i v hi => ?_, fun _ => ⟨by have := hv.1; simp only [Array.length_toList] at this; simp; omega, by simp, fun _ => rfl⟩⟩
   obtain ⟨v', h1, h2⟩ := hv.get hi
   exact ⟨v', by simpa using h1, h2.mono (by omega) fun b hb => ext_lt hb⟩
 ·rcases cases_ b u hu with ⟨hb, hu2⟩ | ⟨rfl, rfl⟩ <;> rcases cases_ c v hv' with ⟨hc, hv2⟩ | ⟨rfl, rfl⟩
  ·rw [ext_lt hb, ext_lt hc]; exact hs.rel.inj b c u v hu2 hv2 hne hw hlv
  ·rw [ext_lt hb, ext_same]; exact hl b u hu2 (live_of_wrt hw)
  ·rw [ext_lt hc, ext_same]; exact fun e => hl c v hv2 hlv e.symm
  ·exact absurd rfl hne
 ·rw [ext_lt (Nat.lt_of_lt_of_le hg hs.rel.many)]; exact hs.rel.glob g hg
 ·rw [ext_lt (Nat.lt_of_lt_of_le hb hs.len)]; exact hs.same b hb
 ·obtain ⟨b, u, hu, hw, rfl⟩ := hc
  rcases cases_ b u hu with ⟨hb, hu⟩ | ⟨rfl, rfl⟩
  ·rw [ext_lt hb]; exact hs.fresh _ ⟨b, u, hu, hw, rfl⟩
  ·rw [ext_same]; exact .inr hD
 ·rcases cases_ c u hu with ⟨hc, hu2⟩ | ⟨rfl, rfl⟩
  ·rw [ext_lt hc]; exact hs.lives c u hu2 hlv
  ·rw [ext_same]; exact .inr (.inr hD)
/-- What was read ahead of a call. -/
def FOne (ops : Array Oper) (listed : Array Bool) (e : Env) (H : Heap) (ρ : Nat → Place) (q : Nat × Nat) : Prop :=
 listed.getD q.1 false = true ∧ ∃ o t, ops[q.1]? = some o ∧ loadAddr o.op = some t ∧ (∀ (j : Nat) (oj : Oper), ops[j]? = some oj → listed.getD j true = false → oj.dst ≠ some t) ∧
  ∃ b off, get e t = .pointer (some ⟨b, off, none⟩) ∧ (ρ b).blk = q.2 ∧ b < H.length
theorem FOne.put {listed : Array Bool} {e : Env} {H : Heap} {q : Nat × Nat} (h : FOne ops listed e H ρ q) {k : Nat} {ok : Oper} (hok : ops[k]? = some ok) (hk : listed.getD k true = false) {e1 : Env} (he1 : ∃ v, e1 = putO e ok.dst v) {H1 : Heap} {ρ1 : Nat → Place}
  (hl : H.length ≤ H1.length) (hs : ∀ b, b < H.length → ρ1 b = ρ b) : FOne ops (listed.setIfInBounds k true) e1 H1 ρ1 q := by
 obtain ⟨h1, o, t, h2, h3, h4, b, off, h5, h6, h7⟩ := h
 obtain ⟨v, rfl⟩ := he1
 refine ⟨getD_set_true h1, o, t, h2, h3, fun j oj hj hun => ?_, b, off, ?_, by rw [hs b h7]; exact h6, by omega⟩
 ·by_cases hjk : k = j
  ·subst hjk
   exact h4 k oj hj hk
  ·rw [getD_set_ne true hjk] at hun; exact h4 j oj hj hun
 ·have := h4 k ok hok hk
  cases hd : ok.dst with
  | none => exact h5
  | some d =>
   rw [hd] at this
   simp only [putO, get_put]
   rw [if_neg (fun q => this (by rw [q]))]
   exact h5
theorem mem_keepBs {e : Env} {t n b o : Nat} (h : get e t = .pointer (some ⟨b, o, none⟩)) : ∀ (l : List (Nat × Nat)), (t, n) ∈ l → b ∈ keepBs e l
 | [], hm => by cases hm
 | (t', n') :: l, hm => by
  unfold keepBs
  rcases List.mem_cons.1 hm with e1 | hm
  ·cases e1
   rw [h]
   simp
  ·have := mem_keepBs h l hm
   split
   ·exact List.mem_cons_of_mem _ this
   ·exact this
/-- How many operations are still to come. -/
def un (ops : Array Oper) (listed : Array Bool) : Nat := ((List.range ops.size).filter fun i => !listed.getD i true).length
theorem filter_less {p q : Nat → Bool} (h : ∀ x, q x = true → p x = true) : ∀ (l : List Nat) (i : Nat), i ∈ l → p i = true → q i = false → (l.filter q).length < (l.filter p).length
 | [], _, hi, _, _ => by cases hi
 | x :: l, i, hi, hp, hq => by
  have hle : ∀ l : List Nat, (l.filter q).length ≤ (l.filter p).length := fun l => by
   induction l with
   | nil => simp
   | cons y l ih =>
    by_cases hy : q y = true
    ·simp [hy, h y hy, ih]
    ·by_cases hpy : p y = true <;> simp [hy, hpy] <;> omega
  rcases List.mem_cons.1 hi with rfl | hi
  ·have := hle l
   simp [hp, hq]; omega
  ·have := filter_less h l i hi hp hq
   by_cases hy : q x = true
   ·simp [hy, h x hy, this]
   ·by_cases hpy : p x = true <;> simp [hy, hpy] <;> omega
theorem un_less {listed : Array Bool} {i : Nat} (hi : i < ops.size) (h : listed.getD i true = false) : un ops (listed.setIfInBounds i true) < un ops listed := by
 refine filter_less (fun x hx => ?_) _ i (by simpa using hi) (by simp only [h, Bool.not_false]) ?_
 ·simp only [Bool.not_eq_true'] at hx ⊢
  by_cases hxi : i = x
  ·subst hxi
   rcases Nat.lt_or_ge i listed.size with q | q
   ·simp [q] at hx
   ·rw [Array.getD_eq_getD_getElem?, Array.getElem?_eq_none (by rw [Array.size_setIfInBounds]; exact q)] at hx
    cases hx
  ·rwa [getD_set_ne true hxi] at hx
 ·rcases Nat.lt_or_ge i listed.size with q | q
  ·simp [q]
  ·rw [Array.getD_eq_getD_getElem?, Array.getElem?_eq_none (by omega)] at h
   cases h
theorem alloc_step {H : Heap} {w : World} (hr : Rel G ρ H w) (o : Obj) : Step G ρ H w ρ H (w.alloc o) := by
 have old : ∀ c, c < w.heap.size → (w.alloc o).heap[c]? = w.heap[c]? := fun c hc => Go.RowKit.Below.heap_alloc w o c hc
 refine ⟨⟨fun b u hu => (hr.obj b u hu).mono (Nat.le_refl _) rfl (fun _ _ => rfl) fun hl => old _ (lt_of_live (hr.obj b u hu) hl), hr.inj, hr.glob, hr.many⟩, Nat.le_refl _, fun _ _ => rfl, rfl, rfl, rfl, ?_, fun c hc _ => old c hc, fun c h => .inl h, fun c r hc => ⟨r, by rw [old c (Array.getElem?_eq_some_iff.1 hc).1]; exact hc⟩, fun c u h hl => .inl ⟨u, h, hl⟩⟩
 rw [World.size_alloc]
 omega
theorem pa_exec {o : Oper} (hs : ∀ cs b, o.op ≠ .select cs b) : ∀ (E : Early) (a : Act), (∀ q ∈ E, q.2.1 ∉ o.looksAt ops) → execOp (pa E a).eval o = execOp a.eval o ∧ Region.wanted o (yielded ops (pa E a).tmps) = Region.wanted o (yielded ops a.tmps)
 | [], _, _ => ⟨rfl, rfl⟩
 | (i, d, D) :: E, a, h => by
  have h0 : ∀ d', some d = some d' → d' ∉ o.looksAt ops := fun d' e => by cases e; exact h (i, d, D) (by simp)
  obtain ⟨h1, h2⟩ := pa_exec hs E a fun q hq => h q (by simp [hq])
  exact ⟨by rw [pa, execOp_put o hs _ _ _ h0, h1], by rw [pa, wanted_put o _ _ _ h0, h2]⟩
theorem pa_tmp : ∀ (E : Early) (a : Act) (t : Nat), (∀ q ∈ E, q.2.1 ≠ t) → (pa E a).tmps.getD t undef = a.tmps.getD t undef
 | [], _, _, _ => rfl
 | (i, d, D) :: E, a, t, h => by
  rw [← pa_tmp E a t fun q hq => h q (by simp [hq])]
  have : d ≠ t := h (i, d, D) (by simp)
  simp [pa, Act.put, Array.getElem?_setIfInBounds_ne this]
/-- An operation that looks at no new block may be run before or after these are laid. -/
theorem pa_wpOp {Q : Exit → Act → World → Prop} {j : Nat} {oj : Oper} (hj : ops[j]? = some oj) (hnd : ∀ c, oj.op ≠ .defer c) (hsj : ∀ cs b, oj.op ≠ .select cs b) (hQ : ∀ c a a' w, Q (.panic c) a w → a'.defers = a.defers → SameK rd.keep a a' → Q (.panic c) a' w) :
  ∀ (E : Early) (a : Act) (w : World) (K : Act → World → Prop), (∀ q ∈ E, (q.2.1 ∉ oj.looksAt ops ∧ oj.dst ≠ some q.2.1) ∧ q.2.1 ∉ rd.keep) → wpOpIn (Fr rd) 0 P ops Q j (fun a' w' => K (pa E a') w') a w → wpOpIn (Fr rd) 0 P ops Q j K (pa E a) w
 | [], _, _, _, _, h => h
 | (i, d, D) :: E, a, w, K, hE, h => by
  refine put_back (dst := some d) hj hnd (fun d' e => by cases e; exact (hE (i, d, D) (by simp)).1.1) (fun d' e => by cases e; exact (hE (i, d, D) (by simp)).1.2) hsj (fun c w' hq => hQ c _ _ w' hq (by rw [put_defers]) (SameK.put fun d' e => by cases e; exact (hE (i, d, D) (by simp)).2)) ?_
  exact pa_wpOp hj hnd hsj hQ E a w _ (fun q hq => hE q (by simp [hq])) h
theorem isCall_of {o : Oper} {ao : AOp} (hop : prepOp P N G o.op = some ao) (h : isCallv o.op = true) : ao.isCall = true := by
 obtain ⟨dst, op, ty, pos, after, guard⟩ := o
 cases op <;> first | (cases h; done) | skip
 rename_i c
 simp only [isCallv] at h
 simp only [prepOp] at hop
 unfold prepCall at hop
 split at hop
 ·cases hop
 split at h
 ·rename_i f hcal
  simp only [hcal] at hop
  split at hop
  ·cases hop; rfl
  ·cases hop
 ·rename_i hcal
  simp only [hcal] at hop
  (repeat' split at hop) <;> first | (cases hop; done) | (cases hop; rfl)
 ·cases h
theorem still_not_call {op : Op} {ao : AOp} (hop : prepOp P N G op = some ao) (h : ao.isCall = true) : stillOp P op = false := by
 cases op with
 | call c =>
  simp only [stillOp]
  split
  ·rename_i hcal
   exfalso
   simp only [prepOp] at hop
   unfold prepCall at hop
   simp only [hcal] at hop
   (repeat' split at hop) <;> first | (cases hop; done) | (cases hop; cases h; done) | skip
  ·rfl
 | binOp op t x y yt =>
  exfalso
  revert hop
  simp only [prepOp]
  split
  ·unfold prepBin
   (repeat' split) <;> intro hop <;> first | (cases hop; done) | (cases hop; cases h; done)
  ·intro hop; cases hop
 | _ => exfalso; revert hop; simp only [prepOp]; (repeat' split) <;> intro hop <;> first | (cases hop; done) | (cases hop; cases h; done) | (obtain ⟨_, _, _, _, _, h2⟩ := prepMap_spec hop; first | (cases h2; cases h; done) | (obtain ⟨_, _, rfl⟩ := Option.map_eq_some_iff.1 h2; cases h; done)) | (rename_i hq _ _; cases hq; done) | (rename_i hq _; cases hq; done) | (rename_i hq; cases hq; done) | (obtain ⟨_, _, rfl⟩ := Option.map_eq_some_iff.1 hop; cases h; done)
theorem loadAddr_spec {op : Op} {t : Nat} (h : loadAddr op = some t) : ∃ ty, op = .load ty (.tmp t) := by
 unfold loadAddr at h
 split at h
 ·cases h; exact ⟨_, rfl⟩
 ·cases h
set_option maxHeartbeats 1000000 in
theorem draw_soundF (hkp : ∀ (j : Nat) (oj : Oper), ops[j]? = some oj → ∀ d, oj.dst = some d → d ∉ rd.keep) (hns : Region.noSelect ops = true) (hnf : noDefer ops = true) (hap0 : allPrep T.P N T.G ops = true) {ρ0 : Nat → Place} {H0 : Heap} {w0 : World} {Q : Post} :
  ∀ (m : Nat) (l : List (Nat × List (Nat × Nat))) (fuel : Nat) (listed : Array Bool) (E : Early) (F : List (Nat × Nat)) (al : List AOper) (e : Env) (H : Heap) (a : Act) (w : World) (ρ : Nat → Place),
   l.length + un ops (lc E listed) ≤ m → un ops (lc E listed) ≤ fuel →
   okOrder T.P ops (Region.before ops) l listed = true → Closed ops (lc E listed) → prepOps T.P N T.G ops l = some al → Rel T.G ρ H w → Fits T.G N H.length ρ e a → Step T.G ρ0 H0 w0 ρ H w → Marks rd w0.heap.size w a.defers →
   (∀ q ∈ E, EOne T N ops listed e H ρ w0.heap.size w q) → E.Pairwise (fun p q => p.1 ≠ q.1 ∧ p.2.1 ≠ q.2.1 ∧ p.2.2 ≠ q.2.2) → (∀ q ∈ F, FOne ops listed e H ρ q) →
   WOps T al e H Q → wpAnyF rd T.P F ops (PostQ T ρ0 H0 w0 N rd Q) fuel (lc E listed) (pa E a) w := by
 have hsel := Region.noSelect_spec hns
 have hndf : ∀ (j : Nat) (oj : Oper), ops[j]? = some oj → ∀ c, oj.op ≠ .defer c := fun j oj hj => noDefer_spec hnf hj
 have hQ : ∀ c a a' w, PostQ T ρ0 H0 w0 N rd Q (.panic c) a w → a'.defers = a.defers → SameK rd.keep a a' → PostQ T ρ0 H0 w0 N rd Q (.panic c) a' w := fun c a a' w h hd hk => h.panic hd hk
 intro m
 induction m with
 | zero =>
  intro l fuel listed E F al e H a w ρ hm hfu hok hc hp hr hf hs hd hE hEp hF hev
  obtain rfl : l = [] := List.eq_nil_of_length_eq_zero (by omega)
  simp only [prepOps] at hp
  cases hp
  simp only [okOrder] at hok
  have hre : Region.ready .any ops listed = [] := by simpa using hok
  have hE0 : E = [] := by
   cases E with
   | nil => rfl
   | cons q E => have := (hE q (by simp)).ready; rw [hre] at this; cases this
  subst hE0
  exact wpAnyF.done hre ⟨_, _, _, hev, ρ, hs, hd, rfl, hf.er⟩ _
 | succ m ih =>
  intro l fuel listed E F al e H a w ρ hm hfu hok hc hp hr hf hs hd hE hEp hF hev
  cases l with
  | nil =>
   simp only [prepOps] at hp
   cases hp
   simp only [okOrder] at hok
   have hre : Region.ready .any ops listed = [] := by simpa using hok
   have hE0 : E = [] := by
    cases E with
    | nil => rfl
    | cons q E => have := (hE q (by simp)).ready; rw [hre] at this; cases this
   subst hE0
   exact wpAnyF.done hre ⟨_, _, _, hev, ρ, hs, hd, rfl, hf.er⟩ _
  | cons p l =>
  obtain ⟨i, chk⟩ := p
  obtain ⟨o, ho, hok2, hready, hAp, hcase⟩ := okOrder_cons hok
  obtain ⟨ao, am, hpo, hpm, rfl⟩ := prepOps_cons ho hp
  obtain ⟨hop, hdst, hchk, hchkN⟩ := prepOper_op hpo
  simp only [List.length_cons] at hm
  have hisz : i < ops.size := (Array.getElem?_eq_some_iff.1 ho).1
  have hiun : listed.getD i true = false := (mem_ready.1 hready).1
  by_cases hiE : ∃ q ∈ E, q.1 = i
  ·-- laid before its turn
   obtain ⟨q, hq, rfl⟩ := hiE
   obtain ⟨E1, E2, rfl⟩ := List.append_of_mem hq
   obtain ⟨i, d, D⟩ := q
   have hEi := hE (i, d, D) hq
   obtain ⟨o', d', ho', hA, hg, hd', hst', hcl', hld'⟩ := isAat_spec (P := T.P) hEi.isA
   obtain ⟨o2, ao2, row, cells, t, h1, h2, h3, h4, h5, h6⟩ := hEi.laid
   simp only at ho' h1 h2 h6 ho hready hiun hisz hok2 hAp hcase hchk hchkN
   rw [ho] at ho' h1
   cases ho'; cases h1
   rw [hd'] at h2
   cases h2
   rw [hop] at h3
   cases h3
   have hpw := List.pairwise_append.1 hEp
   have hpc := List.pairwise_cons.1 hpw.2.1
   have hd1 : ∀ q ∈ E2, d ≠ q.2.1 := fun q hq => (hpc.1 q hq).2.1
   have hi1 : ∀ q ∈ E2, i ≠ q.1 := fun q hq => (hpc.1 q hq).1
   have hall : ∀ q ∈ E1 ++ E2, i ≠ q.1 ∧ d ≠ q.2.1 ∧ D ≠ q.2.2 := fun q hq => by
    rcases List.mem_append.1 hq with hq | hq
    ·have := hpw.2.2 q hq (i, d, D) (by simp)
     exact ⟨fun e => this.1 e.symm, fun e => this.2.1 e.symm, fun e => this.2.2 e.symm⟩
    ·exact hpc.1 q hq
   rw [pa_take E1 E2 i d D a hd1, lc_take E1 E2 i d D listed hi1]
   rw [lc_take E1 E2 i d D listed hi1] at hm hfu hc
   -- the abstract run lays it now
   have hgu : ao.guard = none := by
    have := hpo
    unfold prepOper at this
    simp only [hop, hg] at this
    split at this
    ·exact congrArg AOper.guard (Option.some.inj this).symm
    ·cases this
   have hchk0 : chk = [] := by
    rcases hcase with ⟨hst, _⟩ | ⟨_, _, _, hz⟩
    ·rw [hst'] at hst; cases hst
    ·exact hz hcl'
   have hnc : ao.op.isCall = false := by
    have := h4 e (fun _ _ => rfl) H
    cases hq : ao.op.isCall with
    | false => rfl
    | true =>
     rcases isCall_shape (e := e) (H := H) hq with ⟨f, l', hfl⟩ | ⟨u, b, s, x, hfl⟩
     ·rw [hfl] at this
      simp only [aop] at this
      split at this <;> cases this
     ·rw [hfl] at this
      simp only [aop, appendV] at this
      (repeat' split at this) <;> first | (cases this; done) | (rename_i hs _ _; rw [hs] at this; cases this; done) | (injection this with h1 h2; have := congrArg List.length h2; simp at this; done)
   simp only [WOps, hgu, wantedA, hnc, Bool.false_and, Bool.false_eq_true, if_false, hchk, hchk0, apartOK, if_true] at hev
   rw [h4 e (fun _ _ => rfl) H] at hev
   simp only [WR] at hev
   rw [hdst, hd'] at hev
   have hs' := adopt hs hEi.late hEi.noLive h6 h5
   have hlen : (H ++ [AObj.row row 0 true]).length = H.length + 1 := by simp
   have hf' : Fits T.G N (H ++ [AObj.row row 0 true]).length (ext ρ H.length ⟨D, 0, 0⟩) (putO e (some d) (.pointer (some ⟨H.length, 0, none⟩))) (a.put (some d) (.pointer (some ⟨D, 0, none⟩))) := by
    have h9 : Fits T.G N (H ++ [AObj.row row 0 true]).length (ext ρ H.length ⟨D, 0, 0⟩) e a := ⟨hf.er.mono (by omega) fun b hb => ext_lt hb, hs'.rel.many, hs'.rel.glob⟩
    exact h9.put (by have := prepOper_dst hpo; rwa [hd'] at this) (ptr_new _ _)
   refine ih l fuel (listed.setIfInBounds i true) (E1 ++ E2) F am _ _ _ w _ (by omega) hfu hok2 hc hpm hs'.rel hf' hs' (by rw [put_defers]; exact hd) (fun q hq => ?_) ?_ (fun q hq => ?_) hev
   ·have hq' : q ∈ E1 ++ (i, d, D) :: E2 := by
     rcases List.mem_append.1 hq with hq | hq
     ·exact List.mem_append_left _ hq
     ·exact List.mem_append_right _ (List.mem_cons_of_mem _ hq)
    have hEq := hE q hq'
    obtain ⟨n1, n2, n3⟩ := hall q hq
    obtain ⟨oq, aoq, rowq, cellsq, tq, k1, k2, k3, k4, k5, k6⟩ := hEq.laid
    have hapq : oq.apart ops o = true := hAp q.1 hEq.ready hEq.isA i hready n1 (.inl rfl) oq o k1 ho
    obtain ⟨_, _, a3⟩ := Oper.apart_spec hapq
    refine ⟨ready_mono hEq.ready (Ne.symm n1), hEq.isA, ⟨oq, aoq, rowq, cellsq, tq, k1, k2, k3, fun e' he' H' => k4 e' (fun x hx => ?_) H', k5.mono (by omega) fun b hb => ext_lt hb, k6⟩, hEq.late, ?_, ?_⟩
    ·rw [he' x hx]
     refine aev_put fun d' hd'' hxd => a3 d' (by rw [hd', hd'']) ?_
     subst hxd
     exact List.mem_append_left _ (List.mem_filterMap.2 ⟨.tmp d', by simpa using hx, rfl⟩)
    ·rintro ⟨b, u, hu, hw, he⟩
     by_cases hb : b < H.length
     ·rw [List.getElem?_append_left hb] at hu
      rw [ext_lt hb] at he
      exact hEq.noFoot ⟨b, u, hu, hw, he⟩
     ·have : b = H.length := by have := (List.getElem?_eq_some_iff.1 hu).1; rw [hlen] at this; omega
      subst this
      rw [ext_same] at he
      exact n3 he
    ·intro b u hu hul he
     by_cases hb : b < H.length
     ·rw [List.getElem?_append_left hb] at hu
      rw [ext_lt hb] at he
      exact hEq.noLive b u hu hul he
     ·have : b = H.length := by have := (List.getElem?_eq_some_iff.1 hu).1; rw [hlen] at this; omega
      subst this
      rw [ext_same] at he
      exact n3 he
   ·refine List.pairwise_append.2 ⟨hpw.1, hpc.2, fun x hx y hy => hpw.2.2 x hx y (by simp [hy])⟩
   ·exact (hF q hq).put ho hiun ⟨_, by rw [hd']⟩ (by omega) fun b hb => ext_lt hb
  -- not laid before
  have hiE' : ∀ q ∈ E, i ≠ q.1 := fun q hq e => hiE ⟨q, hq, e.symm⟩
  have hlcun : (lc E listed).getD i true = false := by rw [lc_not E listed i hiE']; exact hiun
  have hsetlc : (lc E listed).setIfInBounds i true = lc E (listed.setIfInBounds i true) := lc_set E listed i hiE'
  have hunl := un_less (ops := ops) hisz hlcun
  have hrlc : i ∈ Region.ready .any ops (lc E listed) := by
   refine ready_le (fun x hx => ?_) hready hlcun
   clear hm hfu hc hlcun hsetlc hunl hE hEp hiE hiE'
   induction E with
   | nil => exact hx
   | cons q E ih2 => exact getD_set_true ih2
  have hapE : ∀ q ∈ E, ∀ oq, ops[q.1]? = some oq → oq.apart ops o = true := fun q hq oq hoq => hAp q.1 (hE q hq).ready (hE q hq).isA i hready (hiE' q hq) (.inl rfl) oq o hoq ho
  have hE2 : ∀ q ∈ E, q.2.1 ∉ o.looksAt ops ∧ o.dst ≠ some q.2.1 := fun q hq => by
   obtain ⟨oq, _, _, _, _, k1, k2, _⟩ := (hE q hq).laid
   obtain ⟨a1, a2, _⟩ := Oper.apart_spec (hapE q hq oq k1)
   exact ⟨a1 _ k2, a2 _ k2⟩
  have hE2k : ∀ q ∈ E, (q.2.1 ∉ o.looksAt ops ∧ o.dst ≠ some q.2.1) ∧ q.2.1 ∉ rd.keep := fun q hq => by
   obtain ⟨oq, _, _, _, _, k1, k2, _⟩ := (hE q hq).laid
   exact ⟨hE2 q hq, hkp q.1 oq k1 _ k2⟩
  have hexec := pa_exec (ops := ops) (o := o) (fun cs b => hsel i o cs b ho) E a (fun q hq => (hE2 q hq).1)
  obtain ⟨fuel, rfl⟩ : ∃ f, fuel = f + 1 := ⟨fuel - 1, by omega⟩
  rcases hcase with ⟨hst, hfree, hchkL, hchkN2⟩ | ⟨hst, hclos, hcv, hncv⟩
  ·-- still
   have next : ∀ (F' : List (Nat × Nat)) (v v' : Value), (∀ q ∈ F', FOne ops (listed.setIfInBounds i true) (putO e o.dst v) H ρ q) → VR H.length ρ v v' → WOps T am (putO e o.dst v) H Q →
     wpAnyF rd T.P F' ops (PostQ T ρ0 H0 w0 N rd Q) fuel ((lc E listed).setIfInBounds i true) ((pa E a).put o.dst v') w := by
    intro F' v v' hF' hvr hev2
    rw [hsetlc] at hunl ⊢
    rw [pa_put E a o.dst v' (fun q hq => (hE2 q hq).2)]
    exact ih l fuel (listed.setIfInBounds i true) E F' am _ H _ w ρ (by omega) (by omega) hok2 (by rw [← hsetlc]; exact closed_list hc hrlc) hpm hr (hf.put (prepOper_dst hpo) hvr) hs (by rw [put_defers]; exact hd)
     (fun q hq => (hE q hq).put (hiE' q hq) (hapE q hq) ⟨v, rfl⟩ (Step.refl hr)) hEp hF' hev2
   have pure_case : ∀ v v', VR H.length ρ v v' → Yields T.P ops o v' a → WOps T am (putO e ao.dst v) H Q →
     wpAnyF rd T.P F ops (PostQ T ρ0 H0 w0 N rd Q) (fuel + 1) (lc E listed) (pa E a) w := by
    intro v v' hvr hy hev2
    rw [hdst] at hev2
    refine firstF (oi := o) (v := v') (fun q hq => hq) (fun a' _ => Yields T.P ops o v' a') (fun j => ∃ oj, ops[j]? = some oj ∧ o.apart ops oj = true) (fun a' w' hy' K hK => yields_wpOp ho (hndf i o ho) hy' hK)
     (fun j ⟨oj, hj, hap⟩ a' w' K hy' hh => ?_)
     fuel (lc E listed) (pa E a) w hc (fun j oj hj hne hun hb hno => ⟨oj, hj, Region.free_spec ho hfree j oj hj hne (lc_unlisted E listed j hun) hno⟩) hrlc (hy.of_same hexec.1 hexec.2)
     (next F v v' (fun q hq => (hF q hq).put ho hiun ⟨v, rfl⟩ (Nat.le_refl _) fun _ _ => rfl) hvr hev2)
    obtain ⟨_, _, h3⟩ := Oper.apart_spec hap
    exact pass (fun a' => Yields T.P ops o v' a') hj (hndf j oj hj) hap (fun cs b => hsel j oj cs b hj)
     (fun a' hy u => hy.of_same (execOp_put o (fun cs b => hsel i o cs b ho) a' oj.dst u h3) (wanted_put o a' oj.dst u h3)) (fun a' hy d => hy.of_same rfl rfl)
     (fun c a1 w1 h => hQ c _ _ w1 h (by simp [put_defers]) (SameK.put (hkp i o ho)).symm) hy' hh
   simp only [WOps] at hev
   split at hev
   ·exact hev.elim
   ·rename_i hw
    exact pure_case undef undef .undef (.inr ⟨wanted_ok hpo hf hw, rfl⟩) hev
   ·rename_i hw
    split at hev
    ·-- no still operation is a call
     rename_i hk
     exfalso
     simp only [Bool.and_eq_true] at hk
     rw [still_not_call hop hk.1] at hst
     cases hst
    split at hev
    case isFalse => exact hev.elim
    ·rename_i hapart
     have hapart' : apartOK e H ao.op ao.chk = true := hapart
     rcases (op_ok (o := o) hop).2.2 hst e H with ⟨v, H1, hv⟩ | hv
     ·rw [hv] at hev
      simp only [WR] at hev
      cases hl : isLoad o.op with
      | false =>
       obtain ⟨rfl, v', hvr, hsay⟩ := (op_ok (o := o) hop).2.1 hst hl H.length ρ e a H H1 v hf hv
       exact pure_case v v' hvr (.inl ⟨wanted_ok hpo hf hw, hsay⟩) hev
      | true =>
       obtain ⟨hch, hflag⟩ := hchkL hl
       obtain ⟨dj, opj, tyj, posj, afj, guj⟩ := o
       cases opj <;> simp only [isLoad] at hl <;> first | (cases hl; done) | skip
       rename_i t x
       obtain ⟨rfl, b, oo, mm, v', hshape, hx, hbn, hlive, hvr, hreads⟩ := reads_ok (dst := dj) (ty := tyj) (pos := posj) (after := afj) (guard := guj) hop hr hf hv
       obtain ⟨hk1, hk2⟩ := chkOf_ok _ _ hch
       rw [hchk] at hapart'
       have haway : ∀ c ∈ chk, ∃ q, a.tmps.getD c.1 undef = .pointer (some q) ∧ Away w ⟨(ρ b).blk, (ρ b).off + oo, none⟩ mm q c.2 := fun c hcm =>
        away_ok hr hf (hchkN c hcm) (apartOK_mem hshape hx chk hapart' c hcm)
       have hunw : ∀ c ∈ chk, ∀ (k : Nat) (ok : Oper), ops[k]? = some ok → listed.getD k true = false → ok.dst ≠ some c.1 := fun c hcm k ok hk hun => by
        have h9 := hk2 c hcm
        simp only [unwritten, List.all_eq_true, List.mem_range] at h9
        have := h9 k (Array.getElem?_eq_some_iff.1 hk).1
        simpa [hk, hun] using this
       have hEun : ∀ q ∈ E, listed.getD q.1 true = false := fun q hq => (mem_ready.1 (hE q hq).ready).1
       let F' : List (Nat × Nat) := if flagged ops (Region.before ops) listed i = true then (i, (ρ b).blk) :: F else F
       have hFF : ∀ q ∈ F, q ∈ F' := fun q hq => by
        simp only [F']
        split
        ·exact List.mem_cons_of_mem _ hq
        ·exact hq
       rw [hdst] at hev
       have hF' : ∀ q ∈ F', FOne ops (listed.setIfInBounds i true) (putO e dj v) H1 ρ q := fun q hq => by
        have old : ∀ q ∈ F, FOne ops (listed.setIfInBounds i true) (putO e dj v) H1 ρ q := fun q hq => (hF q hq).put ho hiun ⟨v, rfl⟩ (Nat.le_refl _) fun _ _ => rfl
        simp only [F'] at hq
        split at hq
        ·rename_i hfl
         rcases List.mem_cons.1 hq with rfl | hq
         ·obtain ⟨_, ta, hta, huta⟩ := hflag hfl
          obtain ⟨ty2, hty⟩ := loadAddr_spec hta
          cases hty
          have hfu2 : ∀ (j : Nat) (oj : Oper), ops[j]? = some oj → listed.getD j true = false → oj.dst ≠ some ta := fun j oj hj hun => by
           simp only [unwritten, List.all_eq_true, List.mem_range] at huta
           have := huta j (Array.getElem?_eq_some_iff.1 hj).1
           simpa [hj, hun] using this
          refine ⟨?_, _, ta, ho, hta, fun j oj hj hun => ?_, b, oo, ?_, rfl, hbn⟩
          ·have : i < listed.size := by
            rcases Nat.lt_or_ge i listed.size with q | q
            ·exact q
            ·rw [Array.getD_eq_getD_getElem?, Array.getElem?_eq_none q] at hiun; cases hiun
           simp [this]
          ·by_cases hij : i = j
           ·subst hij; exact hfu2 i oj hj hiun
           ·rw [getD_set_ne true hij] at hun; exact hfu2 j oj hj hun
          ·have h7 := hfu2 i _ ho hiun
           simp only at h7
           have h8 : get e ta = .pointer (some ⟨b, oo, none⟩) := hx
           cases dj with
           | none => exact h8
           | some d =>
            simp only [putO, get_put]
            rw [if_neg (fun q => h7 (by rw [q]))]
            exact h8
         ·exact old q hq
        ·exact old q hq
       let U : Nat → Prop := fun j => ∃ oj, ops[j]? = some oj ∧ (Oper.apart ops ⟨dj, .load t x, tyj, posj, afj, guj⟩ oj = true) ∧ (∀ c ∈ chk, oj.dst ≠ some c.1) ∧ ((Region.before ops).getD j 0).testBit i = false ∧
        (stillOp T.P oj.op = true ∨ isAlloc3 T.P oj.op = true ∨ (isCallv oj.op = true ∧ chk = [] ∧ (i, (ρ b).blk) ∈ F') ∨ ∃ t ta xv k, oj.op = .store t (.tmp ta) xv ∧ szOf T.P t = some k ∧ (ta, k) ∈ chk)
       refine firstF (oi := ⟨dj, .load t x, tyj, posj, afj, guj⟩) (v := v') hFF (LoadC T.P ops ⟨dj, .load t x, tyj, posj, afj, guj⟩ (pa E a) ⟨(ρ b).blk, (ρ b).off + oo, none⟩ mm chk w) U ?_ ?_ fuel (lc E listed) (pa E a) w hc ?_ hrlc ?_ ?_
       ·rintro a' w' ⟨⟨g1, g2⟩, g3, g4, g5⟩ K hK
        unfold wpOpIn
        simp only [ho, g2, if_true]
        unfold Oper.wpIn
        refine ⟨fr_about, ?_⟩
        rw [Oper.semAt_eq _ _ _ (fun c hc => by cases hc), g1, hexec.1, hreads.same w' g3]
        exact hK
       ·rintro j ⟨oj, hj, q1, q2, q3, q4⟩ a' w' K hC hh
        exact load_pass hFF (a0 := pa E a) (w0 := w) (i := i) hQ (hkp i _ ho) (fun cs b => by simp) hj (hndf j oj hj) (fun cs b => hsel j oj cs b hj) q1 q2 q3 rfl q4 a' w' K hC hh
       ·intro j oj hj hne hun hb hd'
        have hun' := lc_unlisted E listed j hun
        refine ⟨oj, hj, Region.free_spec ho hfree j oj hj hne hun' hd', fun c hcm => hunw c hcm j oj hj hun', hb, ?_⟩
        rcases hk1 j (by simpa using (Array.getElem?_eq_some_iff.1 hj).1) hne hun' hb oj hj with (h | h | h) | h
        ·exact .inl h
        ·exact .inr (.inl h)
        ·have hfl : flagged ops (Region.before ops) listed i = true := by
          unfold flagged
          rw [List.any_eq_true]
          refine ⟨j, by simpa using (Array.getElem?_eq_some_iff.1 hj).1, ?_⟩
          have hb2 := hb
          simp only [Array.getD_eq_getD_getElem?] at hb2
          simp only [Array.getD_eq_getD_getElem?] at hun'
          simp [hne, hun', hb2, hj, h]
         refine .inr (.inr (.inl ⟨h, (hflag hfl).1, ?_⟩))
         simp only [F', hfl, if_true]
         exact List.mem_cons_self
        ·exact .inr (.inr (.inr h))
       ·refine ⟨⟨rfl, by rw [hexec.2]; exact wanted_ok hpo hf hw⟩, fun k _ => rfl, hreads.there, fun c hcm => ?_⟩
        obtain ⟨q, hq, haw⟩ := haway c hcm
        refine ⟨q, ?_, haw⟩
        rw [pa_tmp E a c.1 fun q' hq' e => ?_]
        ·exact hq
        ·obtain ⟨oq, _, _, _, _, k1, k2, _⟩ := (hE q' hq').laid
         exact hunw c hcm q'.1 oq k1 (hEun q' hq') (by rw [k2, e])
       ·exact next F' v v' hF' hvr hev
     ·rw [hv] at hev
      exact hev.elim
  ·-- one that is not still
   refine ⟨fun h => (by rw [h] at hrlc; cases hrlc), fun j hj => ?_⟩
   by_cases hji : j = i
   ·subst hji
    refine pa_wpOp ho (hndf _ _ ho) (fun cs b => hsel j o cs b ho) hQ E a w _ hE2k ?_
    refine op_stepW hpo ho (hndf _ _ ho) hr hf hev (fun e1 H1 ρ1 a1 w1 hev1 hs1 hf1 hd1 he1 hkeep => ?_) (fun v v' H' ρ1 w1 hq hs1 hvr => ?_)
    ·refine ⟨fun q hq hb hcl => ?_, ?_⟩
     ·obtain ⟨oq, hoq, hcl⟩ := hcl
      rw [ho] at hoq
      cases hoq
      obtain ⟨f1, oL, ta, f2, f3, f4, b, off, f5, f6, f7⟩ := hF q hq
      have hck := hcv hcl
      have hmem : (ta, 1) ∈ chk := by
       rw [hck]
       unfold callChk
       refine List.mem_filterMap.2 ⟨q.1, by simpa using (Array.getElem?_eq_some_iff.1 f2).1, ?_⟩
       have hb2 := hb
       simp only [Array.getD_eq_getD_getElem?] at hb2
       simp only [Array.getD_eq_getD_getElem?] at f1
       simp [f1, hb2, f2, f3]
      rcases hkeep with hkeep | ⟨_, rfl⟩
      ·have := (hkeep (isCall_of hop hcl) b (mem_keepBs f5 _ hmem)).2
       rw [← f6]; exact this
      ·rfl
     ·rw [hsetlc] at hunl ⊢
      exact ih l fuel (listed.setIfInBounds j true) E F am e1 H1 a1 w1 ρ1 (by omega) (by omega) hok2 (by rw [← hsetlc]; exact closed_list hc hrlc) hpm hs1.rel hf1 (hs.trans hs1) (by rw [hd1]; exact hd.step hr hs1)
       (fun q hq => (hE q hq).put (hiE' q hq) (hapE q hq) he1 hs1) hEp (fun q hq => (hF q hq).put ho hiun he1 hs1.len hs1.same) hev1
    ·exact ⟨_, _, _, hq, ρ1, hs.trans hs1, hd.step hr hs1, v', rfl, hvr, fun t _ => (hf.step hs1).er.any t⟩
   ·-- one that lays a block comes first
    have hjun := lc_unlisted E listed j (mem_ready.1 hj).1
    have hjE : ∀ q ∈ E, j ≠ q.1 := fun q hq e => by
     have h1 := (mem_ready.1 hj).1
     have h2 : (lc E listed).getD j true = true := by
      clear hm hfu hc hlcun hsetlc hunl hE hEp hiE hiE' hrlc hj h1 hapE hE2 hE2k hexec
      induction E with
      | nil => cases hq
      | cons q' E ih2 =>
       rcases List.mem_cons.1 hq with rfl | hq
       ·rw [e]
        rcases Nat.lt_or_ge q.1 (lc E listed).size with z | z
        ·simp [lc, z]
        ·rw [lc, Array.getD_eq_getD_getElem?, Array.getElem?_eq_none (by rw [Array.size_setIfInBounds]; exact z)]; rfl
       ·have := ih2 hq
        rw [lc]
        by_cases hx : q'.1 = j
        ·subst hx
         rcases Nat.lt_or_ge q'.1 (lc E listed).size with z | z
         ·simp [z]
         ·rw [Array.getD_eq_getD_getElem?, Array.getElem?_eq_none (by rw [Array.size_setIfInBounds]; exact z)]; rfl
        ·rw [getD_set_ne true hx]; exact this
     rw [h2] at h1
     cases h1
    have hjA : j ∈ Region.ready .any ops listed ∧ isAat ops j = true := by
     by_cases hin : j ∈ (Region.ready .any ops listed).filter fun k => isAat ops k && k != i
     ·have := List.mem_filter.1 hin
      simp only [Bool.and_eq_true] at this
      exact ⟨this.1, this.2.1⟩
     ·exfalso
      refine hji (hclos j (ready_le (fun x hx => ?_) hj ?_))
      ·unfold listA
       rcases lc_true E listed x hx with h | ⟨h1, q, hq, rfl⟩
       ·exact fold_true _ _ _ (.inl h)
       ·refine fold_true _ _ _ (.inr ⟨h1, List.mem_filter.2 ⟨(hE q hq).ready, ?_⟩⟩)
        simp only [Bool.and_eq_true, (hE q hq).isA, true_and]
        simpa using Ne.symm (hiE' q hq)
      ·unfold listA
       rw [fold_not _ _ _ hin]
       exact hjun
    obtain ⟨hjr, hjAa⟩ := hjA
    obtain ⟨oj, dj, hoj, hAj, hgj, hdj, hstj, hclj, hldj⟩ := isAat_spec (P := T.P) hjAa
    have hapj : ∀ q ∈ E, ∀ oq, ops[q.1]? = some oq → oq.apart ops oj = true := fun q hq oq hoq => hAp q.1 (hE q hq).ready (hE q hq).isA j hjr (hjE q hq) (.inr hjAa) oq oj hoq hoj
    have hE3 : ∀ q ∈ E, q.2.1 ∉ oj.looksAt ops ∧ oj.dst ≠ some q.2.1 := fun q hq => by
     obtain ⟨oq, _, _, _, _, k1, k2, _⟩ := (hE q hq).laid
     obtain ⟨a1, a2, _⟩ := Oper.apart_spec (hapj q hq oq k1)
     exact ⟨a1 _ k2, a2 _ k2⟩
    have hexj := pa_exec (ops := ops) (o := oj) (fun cs b => hsel j oj cs b hoj) E a (fun q hq => (hE3 q hq).1)
    -- its operation is one that the evaluator takes
    obtain ⟨aoj, hopj⟩ : ∃ aoj, prepOp T.P N T.G oj.op = some aoj := by
     unfold allPrep at hap0
     rw [Array.all_eq_true] at hap0
     obtain ⟨z1, z2⟩ := Array.getElem?_eq_some_iff.1 hoj
     have := hap0 j z1
     rw [z2, hAj] at this
     exact Option.isSome_iff_exists.1 (by simpa using this)
    obtain ⟨row, cells, t, hlay, hrow, hrun⟩ := alloc_run hopj hAj hf
    unfold wpOpIn
    simp only [hoj]
    have hwj : Region.wanted oj (yielded ops (pa E a).tmps) = true := by simp [Region.wanted, hgj]
    rw [if_pos hwj]
    unfold Oper.wpIn
    refine ⟨fr_about, ?_⟩
    rw [Oper.semAt_eq _ _ _ (hndf j oj hoj), hexj.1, hrun w]
    simp only [Oper.uponIn]
    have hst2 := alloc_step hr (.cells cells t (0, 0))
    have hjsz : j < ops.size := (Array.getElem?_eq_some_iff.1 hoj).1
    have hunj := un_less (ops := ops) hjsz (mem_ready.1 hj).1
    refine ⟨fun q hq hb hcl => ?_, ?_⟩
    ·obtain ⟨oq, hoq, hcl⟩ := hcl
     rw [hoj] at hoq
     cases hoq
     rw [hclj] at hcl
     cases hcl
    ·rw [hdj]
     have hD : ∀ q ∈ E, q.2.2 < w.heap.size := fun q hq => by
      obtain ⟨_, _, _, _, _, _, _, _, _, _, k6⟩ := (hE q hq).laid
      exact (Array.getElem?_eq_some_iff.1 k6).1
     refine ih ((i, chk) :: l) fuel listed ((j, dj, w.heap.size) :: E) F (ao :: am) e H a (w.alloc (.cells cells t (0, 0))) ρ (by simp only [List.length_cons, lc]; omega) (by simp only [lc]; omega) hok (closed_list hc hj) hp hst2.rel hf (hs.trans hst2) (hd.step hr hst2) (fun q hq => ?_) ?_ hF hev
     ·rcases List.mem_cons.1 hq with rfl | hq
      ·refine ⟨hjr, hjAa, ⟨oj, aoj, row, cells, t, hoj, hdj, hopj, hlay, hrow, World.alloc_heap_new w _⟩, hs.size, ?_, fun b u hu hul he => ?_⟩
       ·rintro ⟨b, u, hu, hw2, he⟩
        have := lt_of_live (hr.obj b u hu) (live_of_wrt hw2)
        simp only at he; omega
       ·have := lt_of_live (hr.obj b u hu) hul
        simp only at he; omega
      ·have hEq := hE q hq
       obtain ⟨oq, aoq, rowq, cellsq, tq, k1, k2, k3, k4, k5, k6⟩ := hEq.laid
       exact ⟨hEq.ready, hEq.isA, ⟨oq, aoq, rowq, cellsq, tq, k1, k2, k3, k4, k5, by rw [hst2.frame _ (hD q hq) hEq.noFoot]; exact k6⟩, hEq.late, hEq.noFoot, hEq.noLive⟩
     ·refine List.pairwise_cons.2 ⟨fun q hq => ⟨hjE q hq, fun e => ?_, fun e => ?_⟩, hEp⟩
      ·exact (hE3 q hq).2 (by rw [hdj]; exact congrArg some e)
      ·have := hD q hq
       simp only at e; omega
end
section
variable {T : Pg} {N : Nat} {ρ : Nat → Place} {ops : Array Oper} {rd : Cx}
theorem seq_soundW {ρ0 : Nat → Place} {H0 : Heap} {w0 : World} {Q : Post} :
  ∀ (l : List Nat) (al : List AOper) (e : Env) (H : Heap) (a : Act) (w : World) (ρ : Nat → Place),
   prepOps T.P N T.G ops (l.map fun i => (i, [])) = some al → (∀ i ∈ l, i < ops.size) → Rel T.G ρ H w → Fits T.G N H.length ρ e a → Step T.G ρ0 H0 w0 ρ H w → Marks rd w0.heap.size w a.defers →
   WOps T al e H Q → wpOpsIn (Fr rd) 0 T.P ops (PostQ T ρ0 H0 w0 N rd Q) l a w := by
 intro l
 induction l with
 | nil =>
  intro al e H a w ρ hp _ hr hf hs hd hev
  simp only [List.map_nil, prepOps] at hp
  cases hp
  exact ⟨_, _, _, hev, ρ, hs, hd, rfl, hf.er⟩
 | cons i l ih =>
  intro al e H a w ρ hp hl hr hf hs hd hev
  have hi : i < ops.size := hl i (by simp)
  have ho : ops[i]? = some ops[i] := by simp [hi]
  rw [List.map_cons] at hp
  obtain ⟨ao, am, hpo, hpm, rfl⟩ := prepOps_cons ho hp
  rw [wpOpsIn_cons]
  have hnd : ∀ c, ops[i].op ≠ .defer c := by
   intro c hc
   have := (prepOper_op hpo).1
   rw [hc] at this
   cases this
  refine op_stepW hpo ho hnd hr hf hev (fun e1 H1 ρ1 a1 w1 hev1 hs1 hf1 hd1 _ _ => ?_) (fun v v' H' ρ1 w1 hq hs1 hvr => ?_)
  ·exact ih am e1 H1 a1 w1 ρ1 hpm (fun j hj => hl j (by simp [hj])) hs1.rel hf1 (hs.trans hs1) (by rw [hd1]; exact hd.step hr hs1) hev1
  ·exact ⟨_, _, _, hq, ρ1, hs.trans hs1, hd.step hr hs1, v', rfl, hvr, fun t _ => (hf.step hs1).er.any t⟩
theorem region_soundW (hm : T.P.follows .mixedOrders = true) {ρ0 : Nat → Place} {H0 : Heap} {w0 : World} {Q : Post} {id : Nat} {ops : Array Oper} {draw : Bool} {ac : ACode}
  (hp : prepRegion T.P N T.G ops draw = some ac) (hkp : keepOk rd.calm rd.keep (.region id ops draw) = true) {e : Env} {H : Heap} {a : Act} {w : World} (hr : Rel T.G ρ H w) (hf : Fits T.G N H.length ρ e a) (hs : Step T.G ρ0 H0 w0 ρ H w) (hd : Marks rd w0.heap.size w a.defers)
  (hev : WC T ac e H Q) : (Code.region id ops draw).wpIn (Fr rd) 0 T.P (PostQ T ρ0 H0 w0 N rd Q) a w := by
 unfold prepRegion at hp
 split at hp
 ·rename_i hdraw
  subst hdraw
  split at hp
  ·rename_i hc
   obtain ⟨al, hal, rfl⟩ := Option.map_eq_some_iff.1 hp
   refine wpIn_region_any hm ?_
   have hw : Rel T.G ρ H { w with drawn := w.drawn + 1 } := hr.congr rfl
   have hun : un ops (Array.replicate ops.size false) ≤ ops.size := by
    unfold un
    exact Nat.le_trans (List.length_filter_le _ _) (by simp)
   refine wpAnyF.any (F := []) _ _ _ _ ?_
   exact draw_soundF (rd := rd) (fun j oj hj d hd hin => by
    simp only [keepOk, Array.all_eq_true] at hkp
    obtain ⟨z1, z2⟩ := Array.getElem?_eq_some_iff.1 hj
    have := hkp j z1
    rw [z2, hd] at this
    simp [hin] at this) hc.2.1.1 hc.2.1.2 hc.1 _ (orderOf T.P ops) ops.size _ [] [] al e H a _ ρ (Nat.le_refl _) hun hc.2.2 (closed_start ops) hal hw hf (hs.trans (Step.drawn hr rfl rfl rfl rfl)) (hd.heap rfl)
    (fun q hq => (by cases hq)) List.Pairwise.nil (fun q hq => (by cases hq)) hev
  ·cases hp
 ·rename_i hdraw
  have : draw = false := by simpa using hdraw
  subst this
  obtain ⟨al, hal, rfl⟩ := Option.map_eq_some_iff.1 hp
  exact wpIn_region (seq_soundW _ al e H a w ρ hal (fun i hi => by simpa using hi) hr hf hs hd hev)
/-- A fresh record of a range over a function. -/
theorem loop_new {H : Heap} {w w1 : World} {e : Env} {a : Act} {ps : Array Tmp} {fn : FuncId} {ca cb : Code} {cz bd : ACode} {D : Nat} (hr : Rel T.G ρ H w) (hf : Fits T.G N H.length ρ e a)
  (hca : prepCode T.P N T.G ca = some cz) (hcb : prepCode T.P N T.G cb = some bd) (hps : ∀ t ∈ ps.toList, t < N)
  (hw : w1 = w.alloc (.loop { state := .ready, pending := none, fn := fn, tmps := a.tmps, params := ps, assign := ca, body := cb, defers := D })) :
  Step T.G ρ H w (ext ρ H.length ⟨w.heap.size, 0, 0⟩) (H ++ [.loop T.P T.G .ready none e ps.toList cz bd]) w1 := by
 subst hw
 refine Step.new hr _ _ 0 ⟨by rw [ext_same], N, fn, ca, cb, a.tmps, D, by rw [ext_same]; simp [jumpOf], hca, hcb, hps, hf.er.mono (by omega) fun b hb => ext_lt hb⟩
theorem run_enterLoop_inner' {P : Program} {w : World} {l₀ : Nat} {r₀ : Loop} (h : w.heap[l₀]? = some (Obj.loop r₀)) (fn : FuncId) (tmps : Array Value) (ps : Array Tmp) (assign body : Code) :
  (Instr.enterLoop fn tmps ps assign body (some l₀)).run P w =
   .ok (w.heap.size, []) (w.alloc (.loop { state := .ready, pending := none, fn, tmps, params := ps, assign, body, defers := r₀.defers })) := by
 unfold Instr.enterLoop
 simp only [Sem.run_bind, run_getLoop h, run_newObj_alloc, Result.andThen, Sem.run_pure]
theorem code_soundW (hm : T.P.follows .mixedOrders = true) {ρ0 : Nat → Place} {H0 : Heap} {w0 : World} :
  ∀ (c : Code) (ac : ACode), prepCode T.P N T.G c = some ac → keepOk rd.calm rd.keep c = true → ∀ (e : Env) (H : Heap) (a : Act) (w : World) (ρ : Nat → Place) (Q : Post),
   Rel T.G ρ H w → Fits T.G N H.length ρ e a → Step T.G ρ0 H0 w0 ρ H w → Marks rd w0.heap.size w a.defers → WC T ac e H Q → c.wpIn (Fr rd) 0 T.P (PostQ T ρ0 H0 w0 N rd Q) a w := by
 have again : ∀ {e : Env} {H : Heap} {ρ : Nat → Place} {a : Act} {w : World}, Step T.G ρ0 H0 w0 ρ H w → ER H.length ρ N e a.tmps → Rel T.G ρ H w ∧ Fits T.G N H.length ρ e a := fun hs he =>
  ⟨hs.rel, he, hs.rel.many, hs.rel.glob⟩
 intro c
 induction c with
 | skip =>
  intro ac hp hkp e H a w ρ Q hr hf hs hd hev
  simp only [prepCode] at hp; cases hp
  exact wpIn_skip ⟨_, _, _, hev, ρ, hs, hd, rfl, hf.er⟩
 | region id ops draw =>
  intro ac hp hkp e H a w ρ Q hr hf hs hd hev
  simp only [prepCode] at hp
  exact region_soundW hm hp hkp hr hf hs hd hev
 | seq x y ihx ihy =>
  intro ac hp hkp e H a w ρ Q hr hf hs hd hev
  simp only [prepCode] at hp
  split at hp
  ·rename_i ax ay hx hy
   cases hp
   refine wpIn_seq ?_
   simp only [keepOk, Bool.and_eq_true] at hkp
   refine wpIn_mono (ihx ax hx hkp.1 e H a w ρ _ hr hf hs hd hev) fun ex a1 w1 hq => ?_
   obtain ⟨r, e1, H1, hq, ρ1, hs1, hd1, her⟩ := hq
   cases r with
   | norm =>
    obtain ⟨rfl, her⟩ := her
    obtain ⟨hr1, hf1⟩ := again hs1 her
    exact ihy ay hy hkp.2 e1 H1 a1 w1 ρ1 Q hr1 hf1 hs1 hd1 hq
   | exit i => obtain ⟨rfl, her⟩ := her; exact ⟨_, _, _, hq, ρ1, hs1, hd1, rfl, her⟩
   | ret => obtain ⟨rfl, her⟩ := her; exact ⟨_, _, _, hq, ρ1, hs1, hd1, rfl, her⟩
   | pan v => obtain ⟨v', rfl, her, hkk⟩ := her; exact ⟨_, _, _, hq, ρ1, hs1, hd1, v', rfl, her, hkk⟩
  ·cases hp
 | cond c x y ihx ihy =>
  intro ac hp hkp e H a w ρ Q hr hf hs hd hev
  simp only [prepCode] at hp
  split at hp
  ·rename_i hc
   split at hp
   ·rename_i ax ay hx hy
    cases hp
    simp only [WC] at hev
    have h1 := hf.op hc
    unfold WIf at hev
    split at hev
    ·rename_i hb
     rw [hb] at h1
     simp only [keepOk, Bool.and_eq_true] at hkp
     exact wpIn_cond_true h1.inv_bool (ihx ax hx hkp.1 e H a w ρ Q hr hf hs hd hev)
    ·rename_i hb
     rw [hb] at h1
     simp only [keepOk, Bool.and_eq_true] at hkp
     exact wpIn_cond_false h1.inv_bool (ihy ay hy hkp.2 e H a w ρ Q hr hf hs hd hev)
    ·exact hev.elim
   ·cases hp
  ·cases hp
 | block id c ih =>
  intro ac hp hkp e H a w ρ Q hr hf hs hd hev
  simp only [prepCode] at hp
  obtain ⟨ax, hx, rfl⟩ := Option.map_eq_some_iff.1 hp
  refine wpIn_block ?_
  refine wpIn_mono (ih ax hx hkp e H a w ρ _ hr hf hs hd hev) fun ex a1 w1 hq => ?_
  obtain ⟨r, e1, H1, hq, ρ1, hs1, hd1, her⟩ := hq
  cases r with
  | norm => obtain ⟨rfl, her⟩ := her; exact ⟨_, _, _, hq, ρ1, hs1, hd1, rfl, her⟩
  | exit i =>
   obtain ⟨rfl, her⟩ := her
   simp only [blockK] at hq
   split at hq
   ·rename_i hi
    simp only [Exit.inBlock, hi, if_true]
    exact ⟨_, _, _, hq, ρ1, hs1, hd1, rfl, her⟩
   ·rename_i hi
    simp only [Exit.inBlock, hi, if_false]
    exact ⟨_, _, _, hq, ρ1, hs1, hd1, rfl, her⟩
  | ret => obtain ⟨rfl, her⟩ := her; exact ⟨_, _, _, hq, ρ1, hs1, hd1, rfl, her⟩
  | pan v => obtain ⟨v', rfl, her, hkk⟩ := her; exact ⟨_, _, _, hq, ρ1, hs1, hd1, v', rfl, her, hkk⟩
 | loop c ih =>
  intro ac hp hkp e H a w ρ Q hr hf hs hd hev
  simp only [prepCode] at hp
  obtain ⟨ax, hx, rfl⟩ := Option.map_eq_some_iff.1 hp
  have key : ∀ (n : Nat) (e : Env) (H : Heap) (a : Act) (w : World) (ρ : Nat → Place), Rel T.G ρ H w → Fits T.G N H.length ρ e a → Step T.G ρ0 H0 w0 ρ H w → Marks rd w0.heap.size w a.defers →
    rds (WC T ax) n e H Q → Code.roundsIn (Fr rd) 0 T.P c (PostQ T ρ0 H0 w0 N rd Q) n a w := by
   intro n
   induction n with
   | zero => intro e H a w ρ _ _ _ _ h; exact h.elim
   | succ n ihn =>
    intro e H a w ρ hr hf hs hd h
    rw [roundsIn_succ]
    refine wpIn_mono (ih ax hx hkp e H a w ρ _ hr hf hs hd h) fun ex a1 w1 hq => ?_
    obtain ⟨r, e1, H1, hq, ρ1, hs1, hd1, her⟩ := hq
    cases r with
    | norm =>
     obtain ⟨rfl, her⟩ := her
     obtain ⟨hr1, hf1⟩ := again hs1 her
     exact ihn e1 H1 a1 w1 ρ1 hr1 hf1 hs1 hd1 hq
    | exit i => obtain ⟨rfl, her⟩ := her; exact ⟨_, _, _, hq, ρ1, hs1, hd1, rfl, her⟩
    | ret => obtain ⟨rfl, her⟩ := her; exact ⟨_, _, _, hq, ρ1, hs1, hd1, rfl, her⟩
    | pan v => obtain ⟨v', rfl, her, hkk⟩ := her; exact ⟨_, _, _, hq, ρ1, hs1, hd1, v', rfl, her, hkk⟩
  obtain ⟨n, hev⟩ := hev
  exact wpIn_loop_rounds n (key n e H a w ρ hr hf hs hd hev)
 | exit id =>
  intro ac hp hkp e H a w ρ Q hr hf hs hd hev
  simp only [prepCode] at hp; cases hp
  exact wpIn_exit ⟨_, _, _, hev, ρ, hs, hd, rfl, hf.er⟩
 | ret =>
  intro ac hp hkp e H a w ρ Q hr hf hs hd hev
  simp only [prepCode] at hp; cases hp
  exact wpIn_ret ⟨_, _, _, hev, ρ, hs, hd, rfl, hf.er⟩
 | rangeFunc g ps ca cb =>
  intro ac hp hkp e H a w ρ Q hr hf hs hd hev
  simp only [prepCode] at hp
  split at hp
  case isFalse => cases hp
  rename_i hc
  simp only [Bool.and_eq_true] at hc
  have hps : ∀ t ∈ ps.toList, t < N := fun t ht => by simpa using List.all_eq_true.1 hc.2 t ht
  split at hp
  case h_2 => cases hp
  rename_i cz bd has hbd
  cases hp
  simp only [WC] at hev
  unfold WRange at hev
  have h1 := hf.op hc.1
  split at hev
  case h_2 => exact hev.elim
  rename_i f first captured hg
  rw [hg] at h1
  obtain ⟨first', cap', hv, hvl1, hvl2⟩ := h1.inv_func
  obtain ⟨⟨n', body', res', hT⟩, hW⟩ := hev
  have henter : ∀ (args : Array Value) (w : World), (callFunc f args).run T.P w = .ok (.enter f args) w := by
   obtain ⟨_, _, hc, _⟩ := prepFn_inv hT
   exact hc.enter
  refine wpIn_rangeFunc fun fn _ => ?_
  -- the record, and the block for the rounds' deferred calls at an outermost one
  have laid : ∃ (l : Nat) (mark : List Deferred) (w1 w2 : World) (D : Nat), (Instr.enterLoop fn a.tmps ps ca cb rd.rnd).run T.P w = .ok (l, mark) w2 ∧ Step T.G ρ H w ρ H w1 ∧ Marks rd w0.heap.size w1 (mark ++ a.defers) ∧ l = w1.heap.size ∧
    w2 = w1.alloc (.loop { state := .ready, pending := none, fn := fn, tmps := a.tmps, params := ps, assign := ca, body := cb, defers := D }) := by
   obtain ⟨ms, hms, hd0, htl, _⟩ := hd
   have hcalm : rd.calm = true → False := fun h => by simp [keepOk, h] at hkp
   cases hrn : rd.rnd with
   | none =>
    refine ⟨_, _, _, _, w.heap.size, run_enterLoop_outer fn a.tmps ps ca cb, alloc_step hr _, ?_, by rw [World.size_alloc], rfl⟩
    have hd1 := hd0.step hr (alloc_step hr (.deferred (some [])))
    refine ⟨{ target := .collected w.heap.size, args := #[] } :: ms, by rw [hms]; rfl, ⟨fun l hl => (by rw [hrn] at hl; cases hl), fun d hdm => ?_, ?_⟩, htl, fun h => (hcalm h).elim⟩
    ·rcases List.mem_cons.1 hdm with rfl | hdm
     ·exact ⟨w.heap.size, rfl, hs.size, World.alloc_heap_new w _⟩
     ·exact hd1.2.1 d hdm
    ·refine List.Pairwise.cons (fun d hdm => ?_) hd1.2.2
     obtain ⟨D, rfl, _, h3⟩ := hd0.2.1 d hdm
     have hlt := (Array.getElem?_eq_some_iff.1 h3).1
     intro he
     injection he with he _
     injection he with he
     omega
   | some l0 =>
    obtain ⟨hd00, r0, hl0⟩ := hd0.1 l0 hrn
    exact ⟨_, _, w, _, r0.defers, run_enterLoop_inner' hl0 fn a.tmps ps ca cb, Step.refl hr, ⟨ms, by simpa using hms, hd0, htl, fun h => (hcalm h).elim⟩, rfl, rfl⟩
  obtain ⟨l, mark, w1, w2, D, henterL, hs1, hm1, rfl, hw2⟩ := laid
  have hs2 := loop_new hs1.rel (hf.step hs1) has hbd hps hw2
  have hVL : VL (H ++ [AObj.loop T.P T.G .ready none e ps.toList cz bd]).length (ext ρ H.length ⟨w1.heap.size, 0, 0⟩) (first.toList ++ [Value.func (.yield H.length) #[] #[]] ++ captured.toList) ((first' ++ #[Value.func (.yield w1.heap.size) #[] #[]]) ++ cap').toList := by
   have hmono : ∀ {xs ys : List Value}, VL H.length ρ xs ys → VL (H ++ [AObj.loop T.P T.G .ready none e ps.toList cz bd]).length (ext ρ H.length ⟨w1.heap.size, 0, 0⟩) xs ys := fun h => h.mono (by simp) fun b hb => ext_lt hb
   have hy : VR (H ++ [AObj.loop T.P T.G .ready none e ps.toList cz bd]).length (ext ρ H.length ⟨w1.heap.size, 0, 0⟩) (.func (.yield H.length) #[] #[]) (.func (.yield w1.heap.size) #[] #[]) := by
    have := VR.yield (ρ := ext ρ H.length ⟨w1.heap.size, 0, 0⟩) (n := (H ++ [AObj.loop T.P T.G .ready none e ps.toList cz bd]).length) H.length (by simp)
    rwa [ext_same] at this
   have := ((hmono hvl1).append (VL.cons hy VL.nil)).append (hmono hvl2)
   simpa using this
  refine ⟨w1.heap.size, mark, w2, { target := .fn (.func f) cap', args := first' ++ #[Value.func (.yield w1.heap.size) #[] #[]] }, w2, f, (first' ++ #[Value.func (.yield w1.heap.size) #[] #[]]) ++ cap', w2, henterL, ?_, fun _ _ => trivial, ?_, fr_depth, ?_⟩
  ·have hrs : resolve a.eval (rangeCall g w1.heap.size) 0 = Deferred.ofValue (a.eval g) #[Value.func (.yield w1.heap.size) #[] #[]] := by simp [resolve, Act.eval]
   rw [hrs, hv]
   rfl
  ·simp [invoke, henter]
  rcases hW _ w2 ((first' ++ #[Value.func (.yield w1.heap.size) #[] #[]]) ++ cap') hs2.rel hVL with ⟨v', h2, _⟩ | ⟨_, hcalls⟩
  ·rw [henter] at h2
   cases h2
  refine fr_calls (Calls.mono hcalls fun en w3 hen => ?_)
  obtain ⟨r, H1, hK, ρ3, hs3, hres⟩ := hen
  cases r with
  | pan v => exact hK.elim
  | ret v =>
  obtain ⟨v', rfl, _⟩ := hres
  simp only [rangeK] at hK
  split at hK
  case h_2 => exact hK.elim
  rename_i P' G' st pe env' ps' cz' bd' hget1
  obtain ⟨hst, hK⟩ := hK
  have hlive := hget_some hget1 rfl
  have hlen : H.length < H1.length := by have := hs3.len; simp at this; omega
  have hρ3 : ρ3 H.length = ⟨w1.heap.size, 0, 0⟩ := by rw [hs3.same H.length (by simp), ext_same]
  obtain ⟨hoff, N', fn', ca', cb', tmps', D', hrec, q1, q2, q3, q4⟩ := hs3.rel.obj _ _ hlive
  rw [hρ3] at hrec
  have hend := run_endLoop (P := T.P) hrec hst
  have hlt3 : w1.heap.size < w3.heap.size := (Array.getElem?_eq_some_iff.1 hrec).1
  have hs4 : Step T.G ρ3 H1 w3 ρ3 (H1.set H.length .dead) (w3.putObj w1.heap.size (.loop { state := .exhausted, pending := jumpOf pe, fn := fn', tmps := tmps', params := ps'.toArray, assign := ca', body := cb', defers := D' })) := by
   have hu := Step.upd (x := .loop P' G' .exhausted pe env' ps' cz' bd') (w' := w3.putObj w1.heap.size (.loop { state := .exhausted, pending := jumpOf pe, fn := fn', tmps := tmps', params := ps'.toArray, assign := ca', body := cb', defers := D' })) hs3.rel hlive rfl rfl (by simp) (fun c hc => World.putObj_heap_other (by rw [hρ3] at hc; exact hc)) rfl rfl rfl
    (fun r _ => ⟨_, by rw [hρ3]; exact World.putObj_heap_same hlt3⟩) ⟨hoff, N', fn', ca', cb', tmps', D', by rw [hρ3]; exact World.putObj_heap_same hlt3, q1, q2, q3, q4⟩
   have := hu.trans (Step.kill hu.rel H.length)
   rwa [List.set_set] at this
  have hall := ((hs1.trans hs2).trans hs3).trans hs4
  have hmk := ((hm1.step hs1.rel hs2).step hs2.rel hs3).step hs3.rel hs4
  have her := (hf.step hall).er
  refine ⟨_, _, hend, ?_⟩
  match pe, hK with
  | none, hK => exact ⟨.norm, e, _, hK, ρ3, hs.trans hall, hmk, rfl, her⟩
  | some none, hK => exact wpIn_ret ⟨.ret, e, _, hK, ρ3, hs.trans hall, hmk, rfl, her⟩
  | some (some id), hK => exact wpIn_exit ⟨.exit id, e, _, hK, ρ3, hs.trans hall, hmk, rfl, her⟩
 | scope c => intro ac hp; simp only [prepCode] at hp; cases hp
 | label l => intro ac hp; simp only [prepCode] at hp; cases hp
 | goto l => intro ac hp; simp only [prepCode] at hp; cases hp
 | refuse s => intro ac hp; simp only [prepCode] at hp; cases hp
end
section
variable {T : Pg} {N : Nat} {ρ : Nat → Place}
def retK (res : List AResult) (R : FRes → Heap → Prop) : Post := fun r e H =>
 match r with
 | .norm | .ret => match resultsL e H res with
  | some vs => R (.ret (pack vs)) H
  | none => False
 | .pan v => R (.pan v) H
 | .exit _ => False
/-- A block that no one may write becomes another, where that is new or one's own. -/
theorem Step.poke {G : Nat} {ρ ρ1 : Nat → Place} {H H1 : Heap} {w w1 : World} {D : Nat} {o' : Obj} (hs : Step G ρ H w ρ1 H1 w1) (hD : Foot ρ H D ∨ w.heap.size ≤ D) (hn : ¬ Foot ρ1 H1 D)
  (hk : ∀ (b : Nat) (o : AObj), H1[b]? = some o → o.live = true → (ρ1 b).blk ≠ D) (hl : ∀ r : Loop, w1.heap[D]? = some (Obj.loop r) → ∃ r', o' = Obj.loop r') : Step G ρ H w ρ1 H1 (w1.putObj D o') := by
 have other : ∀ c, c ≠ D → (w1.putObj D o').heap[c]? = w1.heap[c]? := fun c hc => World.putObj_heap_other hc
 refine ⟨⟨fun b o ho => (hs.rel.obj b o ho).mono (Nat.le_refl _) rfl (fun _ _ => rfl) fun hlv => other _ (hk b o ho hlv), hs.rel.inj, hs.rel.glob, hs.rel.many⟩, hs.len, hs.same, hs.os, hs.tape, hs.output, by simpa using hs.size, fun c hc hnf => ?_, hs.fresh, fun c r hc => ?_, hs.lives⟩
 ·have hne : c ≠ D := by
   rintro rfl
   rcases hD with h | h
   ·exact hnf h
   ·omega
  rw [other c hne]
  exact hs.frame c hc hnf
 ·obtain ⟨r1, h1⟩ := hs.loops c r hc
  by_cases he : c = D
  ·subst he
   obtain ⟨r', rfl⟩ := hl r1 h1
   exact ⟨r', World.putObj_heap_same (Array.getElem?_eq_some_iff.1 h1).1⟩
  ·exact ⟨r1, by rw [other c he]; exact h1⟩
theorem not_live_deferred {G : Nat} {H : Heap} {w : World} {D : Nat} {ds : Option (List Deferred)} (hr : Rel G ρ H w) (h : w.heap[D]? = some (.deferred ds)) : ∀ (b : Nat) (o : AObj), H[b]? = some o → o.live = true → (ρ b).blk ≠ D := by
 rintro b o hb hl rfl
 have ho := hr.obj b o hb
 cases o with
 | row cs u wr => obtain ⟨_, _, _, h1, _⟩ := ho; rw [h1] at h; cases h
 | iter s p => have h1 := ho.1; rw [h1] at h; cases h
 | loop P G st pe env ps cz bd => obtain ⟨_, _, _, _, _, _, _, h1, _⟩ := ho; rw [h1] at h; cases h
 | map es => obtain ⟨_, _, h1, _⟩ := ho; rw [h1] at h; cases h
 | dead => cases hl
theorem not_live_loop {G : Nat} {H : Heap} {w : World} {D : Nat} {r : Loop} (hr : Rel G ρ H w) (hn : ¬ Foot ρ H D) (h : w.heap[D]? = some (Obj.loop r)) : ∀ (b : Nat) (o : AObj), H[b]? = some o → o.live = true → (ρ b).blk ≠ D := by
 rintro b o hb hl rfl
 have ho := hr.obj b o hb
 cases o with
 | row cs u wr => obtain ⟨_, _, _, h1, _⟩ := ho; rw [h1] at h; cases h
 | iter s p => have h1 := ho.1; rw [h1] at h; cases h
 | loop P G st pe env ps cz bd => exact hn ⟨b, _, hb, rfl, rfl⟩
 | map es => obtain ⟨_, _, h1, _⟩ := ho; rw [h1] at h; cases h
 | dead => cases hl
theorem marks_leaveT {fn : Func} {tmps : Array Value} {R : Ending → World → Prop} {u : FrameMode} {H H1 : Heap} {w : World} {ρ1 : Nat → Place} {c : Cx} {tail : List Deferred} (hu : u ≠ .run)
  (hend : ∀ w2, Step T.G ρ H w ρ1 H1 w2 → LeavesInM (Fr c) 0 T.P fn tmps R tail u w2) :
  ∀ (ds : List Deferred) (w1 : World), Step T.G ρ H w ρ1 H1 w1 → Marks0 none w.heap.size w1 ds → LeavesInM (Fr c) 0 T.P fn tmps R (ds ++ tail) u w1 := by
 intro ds
 induction ds with
 | nil => intro w1 hs _; exact hend w1 hs
 | cons d ds ih =>
  intro w1 hs hm
  obtain ⟨D, rfl, hn, hD⟩ := hm.2.1 d (by simp)
  refine ⟨hu, .inl ⟨D, _, rfl, run_takeDeferred hD, ih _ (hs.poke (.inr hn) (not_foot hs.rel hD) (not_live_deferred hs.rel hD) (fun r h => by rw [hD] at h; cases h)) ⟨fun l hl => (by cases hl), fun d hd => ?_, (List.pairwise_cons.1 hm.2.2).2⟩⟩⟩
  obtain ⟨D2, rfl, h2, h3⟩ := hm.2.1 d (by simp [hd])
  refine ⟨D2, rfl, h2, ?_⟩
  rw [World.putObj_heap_other (fun e => ?_)]
  ·exact h3
  ·subst e
   exact (List.pairwise_cons.1 hm.2.2).1 _ hd rfl
theorem marks_leave {fn : Func} {tmps : Array Value} {R : Ending → World → Prop} {u : FrameMode} {H H1 : Heap} {w : World} {ρ1 : Nat → Place} (hu : u ≠ .run)
  (hend : ∀ w2, Step T.G ρ H w ρ1 H1 w2 → LeavesIn (Fr cx0) 0 T.P fn tmps R [] u w2) :
  ∀ (ds : List Deferred) (w1 : World), Step T.G ρ H w ρ1 H1 w1 → Marks cx0 w.heap.size w1 ds → LeavesInM (Fr cx0) 0 T.P fn tmps R ds u w1 := by
 rintro ds w1 hs ⟨ms, rfl, hm, _⟩
 exact marks_leaveT (tail := []) hu (fun w2 h => hend w2 h) ms w1 hs hm
theorem keep_nil : ∀ (c : Code), keepOk false [] c = true := by
 intro c
 induction c with
 | region id ops draw =>
  cases draw with
  | false => rfl
  | true =>
   simp only [keepOk, Array.all_eq_true]
   intro i hi
   split <;> simp
 | seq a b h1 h2 => simp only [keepOk, h1, h2]; rfl
 | cond c a b h1 h2 => simp only [keepOk, h1, h2]; rfl
 | block i c h => exact h
 | loop c h => exact h
 | _ => rfl
theorem fits_enter {fn : Func} {args : List Value} {args' : Array Value} {H : Heap} {w : World} (hr : Rel T.G ρ H w) (hvl : VL H.length ρ args args'.toList) (hl : args.length ≤ fn.ntmps) :
  Fits T.G fn.ntmps H.length ρ (pad fn.ntmps args) { tmps := args' ++ Array.replicate (fn.ntmps - args'.size) undef, defers := [] } := by
 have hsz : args'.size = args.length := by have := hvl.1; simpa using this.symm
 refine ⟨⟨by simp; omega, fun i hi => ?_, fun i hi => by rw [get_pad, get_eq, List.getD_eq_getElem?_getD, List.getElem?_eq_none (by omega)]; rfl⟩, hr.many, hr.glob⟩
 rw [get_pad, get_eq]
 have e1 : (args' ++ Array.replicate (fn.ntmps - args'.size) undef).getD i undef = args'.toList.getD i undef := by
  simp only [Array.getD_eq_getD_getElem?, List.getD_eq_getElem?_getD, Array.getElem?_append, Array.getElem?_toList]
  split
  ·rfl
  ·rename_i hge
   rw [Array.getElem?_replicate, Array.getElem?_eq_none (xs := args') (by omega)]
   split <;> rfl
 rw [e1]
 exact hvl.getD i
theorem WD.of (hm : T.P.follows .mixedOrders = true) {f : FuncId} {n : Nat} {body : ACode} {res : List AResult} (hT : Laid T f (.code n body res)) {args : List Value} (hl : args.length ≤ n) {H : Heap} {R : FRes → Heap → Prop}
  (h : WC T body (pad n args) H (retK res R)) : WD T f args H R := by
 intro ρ w args' hr hvl
 right
 obtain ⟨fn, c, hc, rfl, hb, hres⟩ := prepFn_inv hT
 refine ⟨hc.enter _ _, ?_⟩
 refine (callsIn_wide (n := 0)).1 (callsIn_of_wp_marks (F := Fr cx0) hc.get hc.body trivial ?_ rfl)
 refine wpIn_mono (code_soundW (rd := cx0) hm c body hb (keep_nil c) (pad fn.ntmps args) H _ w ρ _ hr (fits_enter hr hvl hl) (Step.refl hr) Marks.nil h) fun ex a1 w1 hq => ?_
 obtain ⟨r, e1, H1, hq, ρ1, hs1, hd1, her⟩ := hq
 have good : ∀ vs, resultsL e1 H1 res = some vs → R (.ret (pack vs)) H1 → ER H1.length ρ1 fn.ntmps e1 a1.tmps → LeavesInM (Fr cx0) 0 T.P fn a1.tmps (fun en w' => ∃ r H1, R r H1 ∧ RetOK T.G ρ H w r H1 en w') a1.defers .returning w1 := fun vs hvs hq her =>
  marks_leave (by simp) (fun w2 hs2 => by
   obtain ⟨vs', hvl', hrun⟩ := run_results hs2.rel her hres hvs
   exact ⟨_, hrun, _, _, hq, ρ1, hs2, _, rfl, pack_sound hvl'⟩) _ _ hs1 hd1
 cases r with
 | norm =>
  obtain ⟨rfl, her⟩ := her
  simp only [retK] at hq
  split at hq
  ·rename_i vs hvs; exact good vs hvs hq her
  ·exact hq.elim
 | ret =>
  obtain ⟨rfl, her⟩ := her
  simp only [retK] at hq
  split at hq
  ·rename_i vs hvs; exact good vs hvs hq her
  ·exact hq.elim
 | pan v =>
  obtain ⟨v', rfl, hvr, _⟩ := her
  exact marks_leave (T := T) (u := .panicking [{ v := v', recovered := false }]) (R := fun en w' => ∃ r H1, R r H1 ∧ RetOK T.G ρ H w r H1 en w') (by simp) (fun w2 hs2 => ⟨.pan v, H1, hq, ρ1, hs2, v', rfl, hvr⟩) _ _ hs1 hd1
 | exit i => exact hq.elim
/-! ### A round -/
def putL : Env → List Nat → List Value → Env
 | e, p :: ps, v :: vs => putL (put e p v) ps vs
 | e, _, _ => e
/-- Behind a round's body. -/
def endK (T : Pg) (b : Nat) (env : Env) (ps : List Nat) (cz bd : ACode) (R : FRes → Heap → Prop) : Post := fun r _ H2 =>
 match r with
 | .norm => R (.ret (.bool true)) (H2.set b (.loop T.P T.G .ready none env ps cz bd))
 | .ret => R (.ret (.bool false)) (H2.set b (.loop T.P T.G .done (some none) env ps cz bd))
 | .exit id => R (.ret (.bool false)) (H2.set b (.loop T.P T.G .done (some (some id)) env ps cz bd))
 | .pan _ => False
def asK (T : Pg) (bd : ACode) (Q : Post) : Post := fun r e H =>
 match r with
 | .norm => WC T bd e H Q
 | _ => False
theorem er_params : ∀ (ps : List Nat) (vs vs' : List Value) (e : Env) (t : Array Value) {n : Nat}, ER n ρ N e t → VL n ρ vs vs' → vs.length = ps.length → (∀ p ∈ ps, p < N) →
  ER n ρ N (putL e ps vs) ((ps.zip vs').foldl (fun tmps x => tmps.setIfInBounds x.1 x.2) t)
 | [], vs, vs', e, t, n, h, hv, hl, _ => by simpa [putL] using h
 | p :: ps, [], vs', e, t, n, h, hv, hl, _ => by simp at hl
 | p :: ps, v :: vs, [], e, t, n, h, hv, hl, _ => by have := hv.1; simp at this
 | p :: ps, v :: vs, v' :: vs', e, t, n, h, hv, hl, hps => by
  rw [List.zip_cons_cons, List.foldl_cons, putL]
  exact er_params ps vs vs' _ _ (h.putO (a := { tmps := t, defers := [] }) (d := some p) (by simpa [dstOk] using hps p (by simp)) hv.head) hv.tail (by simpa using hl) (fun q hq => hps q (by simp [hq]))
theorem Step.revive {G : Nat} {ρ ρ1 : Nat → Place} {H H1 : Heap} {w w1 : World} {b : Nat} {o x : AObj} (hs : Step G ρ H w ρ1 H1 w1) (hb : H[b]? = some o) (hw : o.wrt = true) (hx : x.wrt = true) (hn : ¬ Foot ρ1 H1 (ρ b).blk)
  (hk : ∀ (c : Nat) (u : AObj), H1[c]? = some u → u.live = true → (ρ1 c).blk ≠ (ρ b).blk) (ho : OR H1.length ρ1 w1 b x) : Step G ρ H w ρ1 (H1.set b x) w1 := by
 have hlt : b < H.length := (List.getElem?_eq_some_iff.1 hb).1
 have hlt1 : b < H1.length := Nat.lt_of_lt_of_le hlt hs.len
 have hρ : ρ1 b = ρ b := hs.same b hlt
 have cases_ : ∀ c u, (H1.set b x)[c]? = some u → (c ≠ b ∧ H1[c]? = some u) ∨ (c = b ∧ u = x) := fun c u h => by
  by_cases hc : c = b
  ·subst hc; rw [List.getElem?_set_self hlt1] at h; cases h; exact .inr ⟨rfl, rfl⟩
  ·rw [List.getElem?_set_ne (fun e => hc e.symm)] at h; exact .inl ⟨hc, h⟩
 refine ⟨⟨fun c u hu => ?_, fun c d u v hu hv hne hwr hl => ?_, hs.rel.glob, by simpa using hs.rel.many⟩, by simpa using hs.len, hs.same, hs.os, hs.tape, hs.output, hs.size, hs.frame, fun c hc => ?_, hs.loops, fun c u hu hl => ?_⟩
 ·rw [List.length_set]
  rcases cases_ c u hu with ⟨hc, hu⟩ | ⟨rfl, rfl⟩
  ·exact hs.rel.obj c u hu
  ·exact ho
 ·rcases cases_ c u hu with ⟨hc, hu2⟩ | ⟨rfl, rfl⟩ <;> rcases cases_ d v hv with ⟨hd, hv2⟩ | ⟨rfl, rfl⟩
  ·exact hs.rel.inj c d u v hu2 hv2 hne hwr hl
  ·rw [hρ]; exact hk c u hu2 (live_of_wrt hwr)
  ·rw [hρ]; exact fun e => hk d v hv2 hl e.symm
  ·exact absurd rfl hne
 ·obtain ⟨d, u, hu, hwr, rfl⟩ := hc
  rcases cases_ d u hu with ⟨hd, hu⟩ | ⟨rfl, rfl⟩
  ·exact hs.fresh _ ⟨d, u, hu, hwr, rfl⟩
  ·rw [hρ]; exact .inl ⟨d, o, hb, hw, rfl⟩
 ·rcases cases_ c u hu with ⟨hc, hu⟩ | ⟨rfl, rfl⟩
  ·exact hs.lives c u hu hl
  ·exact .inl ⟨o, hb, live_of_wrt hw⟩
theorem foldl_zip (t : Array Value) (ps : List Nat) (vs : Array Value) : (ps.toArray.zip vs).foldl (fun tmps x => tmps.setIfInBounds x.1 x.2) t = (ps.zip vs.toList).foldl (fun tmps x => tmps.setIfInBounds x.1 x.2) t := by
 rw [← Array.foldl_toList]
 simp
theorem WY.of (hm : T.P.follows .mixedOrders = true) {b : Nat} {args : List Value} {H : Heap} {R : FRes → Heap → Prop} {env : Env} {ps : List Nat} {cz bd : ACode} (hb : hget H b = .loop T.P T.G .ready none env ps cz bd)
  (hl : args.length = ps.length) (h : WC T cz (putL env ps args) (H.set b .dead) (asK T bd (endK T b env ps cz bd R))) : WY T b args H R := by
 intro ρ w args' hr hvl
 have hb' := hget_some hb rfl
 obtain ⟨hoff, N, fn, ca, cb, tmps, D, hrec, hca, hcb, hps, her⟩ := hr.obj b _ hb'
 have hsz : args'.size = ps.toArray.size := by have := hvl.1; simp at this ⊢; omega
 refine ⟨_, _, _, _, run_yield hrec hsz, roundIn_of_wpIn trivial ?_⟩
 have foot : Foot ρ H (ρ b).blk := ⟨b, _, hb', rfl, rfl⟩
 have kill := Step.kill hr b
 have nofoot : ¬ Foot ρ (H.set b .dead) (ρ b).blk := by
  rintro ⟨c, o, hc, hw, he⟩
  by_cases hcb : c = b
  ·subst hcb
   rw [List.getElem?_set_self (Array.getElem?_eq_some_iff.1 (show H.toArray[c]? = some _ by simpa using hb')).1] at hc
   cases hc
   cases hw
  ·rw [List.getElem?_set_ne (fun e => hcb e.symm)] at hc
   exact hr.inj c b o _ hc hb' hcb hw rfl he
 have fits : Fits T.G N (H.set b .dead).length ρ (putL env ps args) { tmps := (ps.toArray.zip args').foldl (fun tmps x => tmps.setIfInBounds x.1 x.2) tmps, defers := [] } := by
  refine ⟨?_, kill.rel.many, hr.glob⟩
  rw [foldl_zip, List.length_set]
  exact er_params ps args args'.toList env tmps her hvl hl hps
 refine wpIn_mono (code_soundW (rd := ⟨some (ρ b).blk, [], [], false⟩) hm ca cz hca (keep_nil ca) _ _ _ w ρ _ kill.rel fits (Step.refl kill.rel) (Marks.round hrec) h) fun ex a1 w1 hq => ?_
 obtain ⟨r, e1, H1, hq, ρ1, hs1, hd1, her1⟩ := hq
 cases r with
 | exit i => exact hq.elim
 | ret => exact hq.elim
 | pan v => exact hq.elim
 | norm =>
 obtain ⟨rfl, her1⟩ := her1
 have hlt : (ρ b).blk < w.heap.size := (Array.getElem?_eq_some_iff.1 hrec).1
 have hrec1 := (hs1.frame _ hlt nofoot).trans hrec
 have nofoot1 : ¬ Foot ρ1 H1 (ρ b).blk := fun hf => (hs1.fresh _ hf).elim nofoot (fun q => by omega)
 have hS1 : Step T.G ρ H w ρ1 H1 w1 := kill.trans hs1
 have hS2 := hS1.poke (o' := .loop { state := .busy, pending := none, fn := fn, tmps := tmps, params := ps.toArray, assign := ca, body := cb, defers := D }) (.inl foot) nofoot1 (not_live_loop hs1.rel nofoot1 hrec1) (fun r _ => ⟨_, rfl⟩)
 have hlt1 : (ρ b).blk < w1.heap.size := (Array.getElem?_eq_some_iff.1 hrec1).1
 have hrec2 : (w1.putObj (ρ b).blk (.loop { state := .busy, pending := none, fn := fn, tmps := tmps, params := ps.toArray, assign := ca, body := cb, defers := D })).heap[(ρ b).blk]? = some (Obj.loop { state := .busy, pending := none, fn := fn, tmps := tmps, params := ps.toArray, assign := ca, body := cb, defers := D }) := World.putObj_heap_same hlt1
 refine ⟨_, run_beginRound hrec1 rfl, ?_⟩
 have hd0 : a1.defers = [] := by obtain ⟨ms, q1, q2, _⟩ := hd1; rw [q1, (q2.1 _ rfl).1]; rfl
 have fits1 : Fits T.G N H1.length ρ1 e1 a1 := ⟨her1, hs1.rel.many, hs1.rel.glob⟩
 refine wpIn_mono (code_soundW (rd := ⟨some (ρ b).blk, [], [], false⟩) hm cb bd hcb (keep_nil cb) e1 H1 a1 _ ρ1 _ hS2.rel fits1 (Step.refl hS2.rel) (by rw [hd0]; exact Marks.round hrec2) hq) fun ex a2 w3 hq2 => ?_
 obtain ⟨r, e2, H2, hq2, ρ3, hs3, _, her3⟩ := hq2
 have hlt2 : (ρ b).blk < (w1.putObj (ρ b).blk (.loop { state := .busy, pending := none, fn := fn, tmps := tmps, params := ps.toArray, assign := ca, body := cb, defers := D })).heap.size := by simpa using hlt1
 have hrec3 := (hs3.frame _ hlt2 nofoot1).trans hrec2
 have nofoot3 : ¬ Foot ρ3 H2 (ρ b).blk := fun hf => (hs3.fresh _ hf).elim nofoot1 (fun q => absurd hlt2 (Nat.not_lt.2 q))
 have hS3 : Step T.G ρ H w ρ3 H2 w3 := hS2.trans hs3
 have hlt3 : (ρ b).blk < w3.heap.size := (Array.getElem?_eq_some_iff.1 hrec3).1
 have hρ3 : ρ3 b = ρ b := hS3.same b (List.getElem?_eq_some_iff.1 hb').1
 have fin : ∀ (st : LoopState) (pe : Option (Option Nat)), Step T.G ρ H w ρ3 (H2.set b (.loop T.P T.G st pe env ps cz bd)) (w3.putObj (ρ b).blk (.loop { state := st, pending := jumpOf pe, fn := fn, tmps := tmps, params := ps.toArray, assign := ca, body := cb, defers := D })) := fun st pe => by
  have hp := hS3.poke (o' := .loop { state := st, pending := jumpOf pe, fn := fn, tmps := tmps, params := ps.toArray, assign := ca, body := cb, defers := D }) (.inl foot) nofoot3 (not_live_loop hs3.rel nofoot3 hrec3) (fun r _ => ⟨_, rfl⟩)
  exact hp.revive hb' rfl rfl nofoot3 (not_live_loop hs3.rel nofoot3 hrec3) ⟨by rw [hρ3]; exact hoff, N, fn, ca, cb, tmps, D, by rw [hρ3]; exact World.putObj_heap_same hlt3, hca, hcb, hps, her.mono hS3.len hS3.same⟩
 cases r with
 | norm =>
  obtain ⟨rfl, _⟩ := her3
  exact ⟨_, _, run_endRound none hrec3, _, _, hq2, ρ3, fin .ready none, _, rfl, .bool _⟩
 | ret =>
  obtain ⟨rfl, _⟩ := her3
  exact ⟨_, _, run_endRound (some .ret) hrec3, _, _, hq2, ρ3, fin .done (some none), _, rfl, .bool _⟩
 | exit id =>
  obtain ⟨rfl, _⟩ := her3
  exact ⟨_, _, run_endRound (some (.exit id)) hrec3, _, _, hq2, ρ3, fin .done (some (some id)), _, rfl, .bool _⟩
 | pan v => exact hq2.elim
end
section
variable {T : Pg} {N : Nat} {ρ : Nat → Place}
/-- What becomes of the deferred closure: it is entered, and recovers that value. -/
def WRcv (T : Pg) (g : FuncId) (caps : List Value) (rv : Value) (H : Heap) (K : Heap → Prop) : Prop :=
 ∃ n t al rest, Laid T g (.rcv n t al rest) ∧ caps.length ≤ n ∧
  WOps T al (put (pad n caps) t rv) H (fun r e H1 => match r with
   | .norm => WC T rest e H1 (fun r _ H2 => match r with
    | .norm | .ret => K H2
    | _ => False)
   | _ => False)
def resK (e : Env) (res : List AResult) (R : FRes → Heap → Prop) (H : Heap) : Prop :=
 match resultsL e H res with
 | some vs => R (.ret (pack vs)) H
 | none => False
def leaveK (T : Pg) (g : FuncId) (caps : List Value) (res : List AResult) (R : FRes → Heap → Prop) : Post := fun r e H =>
 match r with
 | .norm | .ret => WRcv T g caps .nilIface H (resK e res R)
 | .pan v => WRcv T g caps v H (resK e res R)
 | .exit _ => False
def onNorm (K : Env → Heap → Prop) : Post := fun r e H =>
 match r with
 | .norm => K e H
 | _ => False
def WDef (T : Pg) (res : List AResult) (R : FRes → Heap → Prop) : ADef → Env → Heap → Prop
 | .pre a d, e, H => WC T a e H (onNorm (WDef T res R d))
 | .here t g cap rest, e, H => WC T rest (put e t (.func (.func g) #[] (cap.map (aev e)).toArray)) H (leaveK T g (cap.map (aev e)) res R)
/-- A closure's first operation recovers; the others go on as ever. -/
theorem rcv_region {F : Fence} {n id : Nat} {P : Program} {ops : Array Oper} {o : Oper} {t : Nat} {Q : Exit → Act → List Frame → World → Prop} {a : Act} {cs cs' : List Frame} {w : World} {v : Value}
  (hround : F.round = none) (hfn : ∀ f, F.fn f) (h0 : ops[0]? = some o) (ho : recvOf o = some t) (hrec : recoverD cs = some (v, cs') ∨ (recoverD cs = none ∧ v = .nilIface ∧ cs' = cs))
  {Q1 : Exit → Act → World → Prop} (h : wpOpsIn F n P ops Q1 (List.range' 1 (ops.size - 1)) (a.put (some t) v) w) (hQ1 : ∀ e a' w', Q1 e a' w' → Q e a' cs' w') : (Code.region id ops false).wpSIn F n P Q a cs w := by
 have hop : o.dst = some t ∧ o.guard = none ∧ (∀ ev, execOp ev o = pure .recover) ∧ (∀ c, o.op ≠ .defer c) := by
  unfold recvOf at ho
  split at ho
  ·cases ho
   exact ⟨rfl, rfl, fun ev => rfl, fun c hc => by cases hc⟩
  ·cases ho
 obtain ⟨hd, hg, hex, hnd⟩ := hop
 have hsz : 0 < ops.size := (Array.getElem?_eq_some_iff.1 h0).1
 have hlist : List.range ops.size = 0 :: List.range' 1 (ops.size - 1) := by
  rw [List.range_eq_range']
  obtain ⟨m, hm⟩ : ∃ m, ops.size = m + 1 := ⟨ops.size - 1, by omega⟩
  rw [hm]
  rfl
 intro b k hb hr hF hroom
 have i0 : (lone (b.atR a (.code (.region id ops false) :: k)) cs w).fenced P F := fenced_calm hF hroom rfl
 have hlen : cs'.length = cs.length := by
  rcases hrec with h1 | ⟨_, _, h1⟩
  ·exact recoverD_length h1
  ·rw [h1]
 obtain ⟨e, a', w', hq0, harr⟩ := wp_opsIn _ _ _ h b k cs' (hr.trans hround.symm) hF (hlen ▸ hroom)
 have hq := hQ1 _ _ _ hq0
 refine ⟨e, a', cs', w', hlen, hq, .of_steps (.one i0 stepR_region) ?_⟩
 rw [hlist]
 have hw : Region.wanted o (yielded ops a.tmps) = true := by simp [Region.wanted, hg]
 have i1 : (lone (b.atR a (.inRegion ops (0 :: List.range' 1 (ops.size - 1)) :: k)) cs w).fenced P F := fenced_oper hF hroom h0 (fun f _ => hfn f)
 have hgo := stepGR_op (P := P) (b := b) (a := a) (k := k) (cs := cs) (w := w) (rest := List.range' 1 (ops.size - 1)) h0 hw
 rw [hr, Oper.semAt_none, hex] at hgo
 have hfin : (b.atR a (.inRegion ops (0 :: List.range' 1 (ops.size - 1)) :: k)).finish v = b.atR (a.put (some t) v) (.inRegion ops (List.range' 1 (ops.size - 1)) :: k) := by
  rw [Frame.finish_atR, h0]
  simp [hd]
 have hk : (b.atR a (.inRegion ops (0 :: List.range' 1 (ops.size - 1)) :: k)).kind = .deferred := hb
 have htr := tryRecover_deferred hk cs
 refine .of_steps (.one i1 (step_lone_go ?_)) harr
 rw [hgo, ← hfin]
 simp only [Frame.atR, hr] at htr ⊢
 rcases hrec with h1 | ⟨h1, rfl, rfl⟩
 ·simp [stepG.apply, htr, h1]
 ·simp [stepG.apply, htr, h1]
/-- What stands in the frame of the function that deferred: it returns, or it panics with that value. -/
def modeOf (rv : Value) : FrameMode → Prop
 | .returning => rv = .nilIface
 | .panicking c => c = [{ v := rv, recovered := false }]
 | .run => False
/-- The deferred closure's call. -/
theorem rcv_calls (hm : T.P.follows .mixedOrders = true) {fn' : Func} {tmps' : Array Value} {R : Ending → World → Prop} {c : Cx} (hc : c.rnd = none) {g : FuncId} {caps : List Value} {caps' : Array Value} {rv rv' : Value} {H : Heap} {K : Heap → Prop}
  (h : WRcv T g caps rv H K) {w : World} (hr : Rel T.G ρ H w) (hvl : VL H.length ρ caps caps'.toList) (hv : VR H.length ρ rv rv') {u : FrameMode} (hu : modeOf rv' u)
  (hend : ∀ w2 ρ2 H2, Step T.G ρ H w ρ2 H2 w2 → K H2 → LeavesInM (Fr c) 0 T.P fn' tmps' R [] .returning w2) :
  CallsDIn (Fr c) (0 - 1) T.P g caps' u w fun
   | .returned _, u', w' => LeavesInM (Fr c) 0 T.P fn' tmps' R [] (settle u') w'
   | .panicked chain, u', w' => LeavesInM (Fr c) 0 T.P fn' tmps' R [] (raised u' chain) w'
   | .outgrown, _, w' => R .outgrown w' := by
 obtain ⟨n, t, al, rest, hT, hl, h⟩ := h
 obtain ⟨fn, cd, hcd, rfl, hp, hres⟩ := prepFn_inv hT
 refine callsDIn_of_wpSIn hcd.get hcd.body trivial fun c₀ cs hmode => ?_
 unfold prepRcv at hp
 split at hp
 case h_2 => cases hp
 rename_i id ops b
 split at hp
 case h_2 => cases hp
 rename_i t' hrc
 obtain ⟨o, h0, ho⟩ := Option.bind_eq_some_iff.1 hrc
 split at hp
 case h_2 => cases hp
 rename_i al' r' hal hrest
 split at hp
 case isFalse => cases hp
 rename_i hc2
 cases hp
 obtain ⟨ht, hcalm⟩ := hc2
 -- what the recover finds, and what it leaves
 obtain ⟨u', hrec, hset⟩ : ∃ u', (recoverD (c₀ :: cs) = some (rv', { c₀ with mode := u' } :: cs) ∨ (recoverD (c₀ :: cs) = none ∧ rv' = .nilIface ∧ { c₀ with mode := u' } :: cs = c₀ :: cs)) ∧ settle u' = .returning := by
  cases u with
  | run => exact hu.elim
  | returning =>
   refine ⟨.returning, .inr ⟨?_, hu, by rw [← hmode]⟩, rfl⟩
   simp [recoverD, hmode]
  | panicking ch =>
   have hu' : ch = [{ v := rv', recovered := false }] := hu
   subst hu'
   refine ⟨.panicking [{ v := rv', recovered := true }], .inl ?_, rfl⟩
   simp [recoverD, hmode]
 have hfits := fits_enter hr hvl hl
 have hfits2 := hfits.put (d := some t) (by simpa [dstOk] using ht) hv
 have hct : (Fr c).round = none := hc
 refine wpSIn_seq ?_
 have hFr : Fr c = Fr ⟨none, [], [], true⟩ := by unfold Fr; rw [hc]
 rw [hFr]
 have hseq := seq_soundW (rd := ⟨none, [], [], true⟩) (ops := ops) (T := T) (ρ0 := ρ) (H0 := H) (w0 := w) (List.range' 1 (ops.size - 1)) al _ H _ w ρ hal (fun i hi => by rw [List.mem_range'] at hi; obtain ⟨j, hj, rfl⟩ := hi; omega) hr hfits2 (Step.refl hr) Marks.nil h
 refine rcv_region rfl (fun _ => trivial) h0 ho hrec hseq fun ex a1 w1 hq => ?_
 obtain ⟨r, e1, H1, hq, ρ1, hs1, hd1, her⟩ := hq
 cases r with
 | exit i => exact hq.elim
 | ret => exact hq.elim
 | pan v => exact hq.elim
 | norm =>
 obtain ⟨rfl, her⟩ := her
 have hfits1 : Fits T.G fn.ntmps H1.length ρ1 e1 a1 := ⟨her, hs1.rel.many, hs1.rel.glob⟩
 refine wpSIn_of_wpIn (F := Fr ⟨none, [], [], true⟩) rfl ?_
 refine wpIn_mono (code_soundW (rd := ⟨none, [], [], true⟩) hm b _ hrest hcalm e1 H1 a1 w1 ρ1 _ hs1.rel hfits1 hs1 hd1 hq) fun ex a2 w2 hq2 => ?_
 obtain ⟨r, e2, H2, hq2, ρ2, hs2, ⟨ms, hms, _, _, hcm⟩, her2⟩ := hq2
 have hdef : a2.defers = [] := by rw [hms, hcm rfl]; rfl
 have fin : K H2 → ER H2.length ρ2 fn.ntmps e2 a2.tmps → ∃ u'', ({ c₀ with mode := u' } : Frame) :: cs = { c₀ with mode := u'' } :: cs ∧ ∃ v, (results fn a2.tmps).run T.P w2 = .ok v w2 ∧ LeavesInM (Fr ⟨none, [], [], true⟩) 0 T.P fn' tmps' R [] (settle u'') w2 := fun hK her => by
  obtain ⟨vs', _, hrun⟩ := run_results hs2.rel her hres (show resultsL e2 H2 [] = some [] from rfl)
  exact ⟨u', rfl, _, hrun, by rw [hset, ← hFr]; exact hend w2 ρ2 H2 hs2 hK⟩
 cases r with
 | norm => obtain ⟨rfl, her2⟩ := her2; exact ⟨hdef, fin hq2 her2⟩
 | ret => obtain ⟨rfl, her2⟩ := her2; exact ⟨hdef, fin hq2 her2⟩
 | exit i => exact hq2.elim
 | pan v => exact hq2.elim
theorem deferOf_spec {G : Nat} {c : Code} {t : Nat} {g : FuncId} {cap : List Operand} (h : deferOf N G c = some (t, g, cap)) :
  ∃ id ops o1 o2 cap' first, c = .region id ops false ∧ ops = #[o1, o2] ∧ o1.dst = some t ∧ o1.op = .makeFunc (.func g) first cap' ∧ o1.guard = none ∧ o2.dst = none ∧ o2.guard = none ∧ (∃ args ty, o2.op = .defer ⟨.value (.tmp t), args, ty⟩ ∧ args.toList = []) ∧
   t < N ∧ first.toList = [] ∧ cap = cap'.toList ∧ cap.all (okO N G) = true := by
 unfold deferOf at h
 split at h
 case h_2 => cases h
 rename_i id ops
 split at h
 case h_2 => cases h
 rename_i hops
 split at h
 case isFalse => cases h
 rename_i hc
 cases h
 obtain ⟨rfl, h1, h2, h3, h4⟩ := hc
 exact ⟨id, ops, _, _, _, _, rfl, (show ops = #[_, _] from Array.toList_inj.1 hops), rfl, rfl, rfl, rfl, rfl, ⟨_, _, rfl, by simpa using h3⟩, h1, by simpa using h2, rfl, h4⟩
theorem wpOpIn_some {F : Fence} {n : Nat} {P : Program} {ops : Array Oper} {Q : Exit → Act → World → Prop} {i : Nat} {K : Act → World → Prop} {a : Act} {w : World} {o : Oper} (ho : ops[i]? = some o) (hg : o.guard = none) (h : o.wpIn F n P a w K Q) : wpOpIn F n P ops Q i K a w := by
 unfold wpOpIn
 simp only [ho]
 rw [if_pos (by simp [Region.wanted, hg])]
 exact h
theorem WD.dfr (hm : T.P.follows .mixedOrders = true) {f : FuncId} {n : Nat} {d : ADef} {res : List AResult} (hT : Laid T f (.dfr n d res)) {args : List Value} (hl : args.length ≤ n) {H : Heap} {R : FRes → Heap → Prop}
  (h : WDef T res R d (pad n args) H) : WD T f args H R := by
 intro ρ w args' hr hvl
 right
 obtain ⟨fn, c, hc, rfl, hd, hk, hres⟩ := prepFn_inv hT
 refine ⟨hc.enter _ _, ?_⟩
 refine (callsIn_wide (n := 0)).1 (callsIn_of_wp_marks (F := Fr cx0) hc.get hc.body trivial ?_ rfl)
 have key : ∀ (c : Code) (d : ADef), prepDef T.P fn.ntmps T.G c = some d → keepOk false (res.map AResult.slot) c = true → ∀ (e : Env) (H1 : Heap) (a : Act) (w1 : World) (ρ1 : Nat → Place),
   Step T.G ρ H w ρ1 H1 w1 → Fits T.G fn.ntmps H1.length ρ1 e a → a.defers = [] → WDef T res R d e H1 → c.wpIn (Fr cx0) 0 T.P (bodyPostM (Fr cx0) 0 T.P fn (fun en w' => ∃ r H1, R r H1 ∧ RetOK T.G ρ H w r H1 en w')) a w1 := by
  intro c
  induction c with
  | seq x y ihx ihy =>
   intro d hd hk e H1 a w1 ρ1 hs hf hdn h
   simp only [keepOk, Bool.and_eq_true] at hk
   simp only [prepDef] at hd
   split at hd
   ·-- here
    rename_i t g cap hdf
    obtain ⟨rest, hrest, rfl⟩ := Option.map_eq_some_iff.1 hd
    obtain ⟨id, ops, o1, o2, cap', first, rfl, hops, d1, p1, g1, d2, g2, ⟨dargs, dty, p2, hda⟩, ht, hfirst, hcap, hok⟩ := deferOf_spec hdf
    simp only [WDef] at h
    subst hops
    obtain ⟨dst1, op1, ty1, pos1, af1, gu1⟩ := o1
    obtain ⟨dst2, op2, ty2, pos2, af2, gu2⟩ := o2
    simp only at d1 p1 g1 d2 g2 p2
    subst d1 p1 g1 d2 g2 p2
    obtain ⟨hfr1, v', hvr, hsay⟩ := pure_mkFunc (P := T.P) (n := H1.length) (ρ := ρ1) (dst := some t) (ty := ty1) (pos := pos1) (after := af1) (guard := none) (f := g) (first := first) (captured := cap') (by rw [hfirst]; rfl) (by rw [← hcap]; exact hok) e a H1 H1 _ hf rfl
    rw [hfirst, ← hcap] at hvr
    obtain ⟨f', c', rfl, hvf, hvc⟩ := hvr.inv_func
    have hf0 : f' = #[] := by have := hvf.1; simp at this; exact Array.eq_empty_of_size_eq_zero this.symm
    subst hf0
    refine wpIn_seq (wpIn_region ?_)
    show wpOpsIn _ _ _ _ _ [0, 1] _ _
    rw [wpOpsIn_cons]
    refine wpOpIn_some (o := ⟨some t, .makeFunc (.func g) first cap', ty1, pos1, af1, none⟩) rfl rfl ⟨fr_about, ?_⟩
    rw [show ∀ o : Oper, Oper.semAt (Fr cx0).round a.eval o = execOp a.eval o from fun o => rfl, hsay w1]
    rw [Oper.uponIn_value, wpOpsIn_cons]
    refine wpOpIn_some (o := ⟨none, .defer ⟨.value (.tmp t), dargs, dty⟩, ty2, pos2, af2, none⟩) rfl rfl ⟨fr_about, ?_⟩
    have hdarg : dargs = #[] := by rw [← Array.toList_inj, hda]
    subst hdarg
    have hev : (a.put (some t) (.func (.func g) #[] c')).eval (.tmp t) = .func (.func g) #[] c' := by
     have : t < a.tmps.size := by rw [hf.er.size]; exact ht
     simp [Act.put, Act.eval, this]
    rw [show ∀ o : Oper, Oper.semAt (Fr cx0).round (a.put (some t) (.func (.func g) #[] c')).eval o = execOp (a.put (some t) (.func (.func g) #[] c')).eval o from fun o => rfl]
    have hdef : (execOp (a.put (some t) (.func (.func g) #[] c')).eval ⟨none, .defer ⟨.value (.tmp t), #[], dty⟩, ty2, pos2, af2, none⟩).run T.P w1 = .ok (.defer { target := .fn (.func g) c', args := #[] }) w1 := by
     simp [execOp, resolve, hev, Deferred.ofValue]
    rw [hdef]
    simp only [Oper.uponIn, wpOpsIn, Exit.then]
    obtain ⟨d0, hd0⟩ : ∃ d0 : Deferred, d0 = { target := .fn (.func g) c', args := #[] } := ⟨_, rfl⟩
    rw [← hd0]
    have hf2 := hf.put (d := some t) (by simpa [dstOk] using ht) hvr
    have hdd : (a.put (some t) (.func (.func g) #[] c')).defers = [] := by rw [put_defers, hdn]
    rw [hdd]
    refine wpIn_mono (F := Fr cx0) (code_soundW (rd := ⟨none, [d0], res.map AResult.slot, false⟩) (ρ0 := ρ1) (H0 := H1) (w0 := w1) hm y rest hrest hk.2 _ H1 { tmps := (a.put (some t) (.func (.func g) #[] c')).tmps, defers := [d0] } w1 ρ1 _ hs.rel ⟨hf2.er, hf2.many, hf2.glob⟩ (Step.refl hs.rel) Marks.nil h) fun ex a2 w2 hq => ?_
    obtain ⟨r, e2, H2, hq, ρ2, hs2, ⟨ms, hms, hm0, _, _⟩, her⟩ := hq
    have out : ∀ (u : FrameMode) (rv rv' : Value), u ≠ .run → modeOf rv' u → VR H2.length ρ2 rv rv' → (∀ t ∈ res.map AResult.slot, VR H2.length ρ2 (get e2 t) (a2.tmps.getD t undef)) → WRcv T g (cap.map (aev e)) rv H2 (resK e2 res R) →
      LeavesInM (Fr cx0) 0 T.P fn a2.tmps (fun en w' => ∃ r H1, R r H1 ∧ RetOK T.G ρ H w r H1 en w') a2.defers u w2 := fun u rv rv' hu hmode hrv hkeep hW => by
     rw [hms]
     refine marks_leaveT (T := T) (ρ := ρ1) (H := H1) (w := w1) (ρ1 := ρ2) (H1 := H2) hu (fun w3 hs3 => ?_) ms w2 hs2 hm0
     have henter : ∀ (args : Array Value) (w : World), (callFunc g args).run T.P w = .ok (.enter g args) w := by
      obtain ⟨_, _, _, _, hTg, _⟩ := hW
      obtain ⟨_, _, hcg, _⟩ := prepFn_inv hTg
      exact hcg.enter
     refine ⟨hu, .inr ⟨fr_depth, .func g, c', g, c', by rw [hd0], by rw [hd0]; simp [invoke, henter], fun _ _ => trivial, ?_⟩⟩
     refine rcv_calls hm rfl hW hs3.rel (hvc.mono hs2.len hs2.same) hrv hmode fun w4 ρ4 H4 hs4 hK => ?_
     unfold resK at hK
     split at hK
     case h_2 => exact hK.elim
     rename_i vs hvs
     obtain ⟨vs', hvl', hrun⟩ := run_resultsK hs4.rel (fun t ht => (hkeep t ht).mono hs4.len hs4.same) hres hvs
     exact ⟨_, hrun, _, _, hK, ρ4, (hs.trans hs3).trans hs4, _, rfl, pack_sound hvl'⟩
    cases r with
    | norm => obtain ⟨rfl, her⟩ := her; exact out .returning .nilIface .nilIface (by simp) rfl .nilIface (fun t _ => her.any t) hq
    | ret => obtain ⟨rfl, her⟩ := her; exact out .returning .nilIface .nilIface (by simp) rfl .nilIface (fun t _ => her.any t) hq
    | exit i => exact hq.elim
    | pan v => obtain ⟨v', rfl, hvr2, hkk⟩ := her; exact out (.panicking [{ v := v', recovered := false }]) v v' (by simp) rfl hvr2 hkk hq
   ·-- ahead of it
    split at hd
    case isFalse => cases hd
    rename_i hcalm
    split at hd
    case h_2 => cases hd
    rename_i ax dy hx hy
    cases hd
    simp only [WDef] at h
    refine wpIn_seq ?_
    refine wpIn_mono (code_soundW (rd := ⟨none, [], [], true⟩) hm x ax hx hcalm e H1 a w1 ρ1 _ hs.rel hf hs (by rw [hdn]; exact Marks.nil) h) fun ex a2 w2 hq => ?_
    obtain ⟨r, e2, H2, hq, ρ2, hs2, ⟨ms, hms, _, _, hcm⟩, her⟩ := hq
    cases r with
    | exit i => exact hq.elim
    | ret => exact hq.elim
    | pan v => exact hq.elim
    | norm =>
    obtain ⟨rfl, her⟩ := her
    exact ihy dy hy hk.2 e2 H2 a2 w2 ρ2 hs2 ⟨her, hs2.rel.many, hs2.rel.glob⟩ (by rw [hms, hcm rfl]; rfl) hq
  | _ => intro d hd; simp only [prepDef] at hd; cases hd
 exact key c d hd hk _ _ _ _ ρ (Step.refl hr) (fits_enter hr hvl hl) rfl h
end
section
variable {T : Pg} {N : Nat} {ρ : Nat → Place}
/-! What the evaluator answers. -/
theorem aop_call {e : Env} {H : Heap} {op : AOp} {f : FuncId} {args : List Value} (h : aop e H op = .call f args) : op.isCall = true := by
 cases op <;> first
  | rfl
  | (exfalso; simp only [aop, ofO] at h; (repeat' (split at h)); all_goals (cases h; done))
  | (exfalso; simp only [aop, appendV] at h; (repeat' (split at h)); all_goals (cases h; done))
theorem callv_not {e : Env} {H : Heap} {op : AOp} (hc : op.isCall = true) : (∃ f l, aop e H op = .call f l) ∨ (∃ b l, aop e H op = .yield b l) ∨ (∃ v H', aop e H op = .val v H') ∨ aop e H op = .no := by
 rcases isCall_shape (e := e) (H := H) hc with ⟨f, l, rfl⟩ | ⟨u, b, s, x, rfl⟩
 ·simp only [aop]
  split
  ·exact .inl ⟨_, _, rfl⟩
  ·exact .inr (.inl ⟨_, _, rfl⟩)
  ·exact .inr (.inr (.inr rfl))
 ·simp only [aop, appendV]
  (repeat' split) <;> first | exact .inr (.inr (.inr rfl)) | exact .inr (.inr (.inl ⟨_, _, rfl⟩))
theorem wops_eval {cf : CallFn} (hcf : ∀ f args H r H1, cf f args H = some (r, H1) → WD T f args H (fun r' H' => r' = r ∧ H' = H1)) {Q : Post} :
  ∀ (l : List AOper) (e : Env) (H : Heap) (x : AExit) (e1 : Env) (H1 : Heap), evalOps cf l e H = some (x, e1, H1) → Q x e1 H1 → WOps T l e H Q
 | [], e, H, x, e1, H1, h, hQ => by simp only [evalOps] at h; cases h; exact hQ
 | o :: rest, e, H, x, e1, H1, h, hQ => by
  simp only [evalOps] at h
  simp only [WOps]
  split at h
  ·cases h
  ·rename_i hw
   simp only [hw]
   exact wops_eval hcf rest _ _ _ _ _ h hQ
  ·rename_i hw
   simp only [hw]
   by_cases hk : o.op.isCall = true
   ·have ef : frzO e H o = frz H (keepBs e o.chk) := by unfold frzO; rw [if_pos hk]
    have et : ∀ K, thawO e H o K = thaw H (keepBs e o.chk) K := fun K => by unfold thawO; rw [if_pos hk]
    simp only [hk, eq_self, if_true, ef, et] at h
    by_cases hok : ((keepBs e o.chk).all fun b => (hget H b).isRow) = false
    ·rw [if_pos hok] at h; cases h
    rw [if_neg hok] at h
    have hall : (keepBs e o.chk).all (fun b => (hget H b).isRow) = true := by simpa using hok
    rcases callv_not (e := e) (H := frz H (keepBs e o.chk)) hk with ⟨f, l, hv⟩ | ⟨b, l, hv⟩ | ⟨v, H', hv⟩ | hv
    ·simp only [hv] at h
     have fin : WD T f l (frz H (keepBs e o.chk)) (fun r H1 => callK (WOps T rest) o.dst e Q r (thaw H (keepBs e o.chk) H1)) := by
      split at h
      ·rename_i v H' hcl
       exact WD.mono (hcf _ _ _ _ _ hcl) (by rintro r H2 ⟨rfl, rfl⟩; exact wops_eval hcf rest _ _ _ _ _ h hQ)
      ·rename_i v H' hcl
       cases h
       exact WD.mono (hcf _ _ _ _ _ hcl) (by rintro r H2 ⟨rfl, rfl⟩; exact hQ)
      ·cases h
     split
     ·refine ⟨hall, ?_⟩
      unfold WRk
      simp only [hv]
      exact fin
     ·rename_i hch
      have hemp : o.chk = [] := by
       cases hc : o.chk with
       | nil => rfl
       | cons c m => rw [hk, hc] at hch; exact absurd rfl hch
      rw [hemp] at fin hv ⊢
      rw [if_pos (show apartOK e H o.op [] = true from rfl)]
      have hv2 : aop e H o.op = .call f l := hv
      unfold WR
      simp only [hv2]
      exact fin
    ·simp only [hv] at h; cases h
    ·simp only [hv] at h
     have fin : WOps T rest (putO e o.dst v) (thaw H (keepBs e o.chk) H') Q := wops_eval hcf rest _ _ _ _ _ h hQ
     split
     ·refine ⟨hall, ?_⟩
      unfold WRk
      simp only [hv]
      exact fin
     ·rename_i hch
      have hemp : o.chk = [] := by
       cases hc : o.chk with
       | nil => rfl
       | cons c m => rw [hk, hc] at hch; exact absurd rfl hch
      rw [hemp] at fin hv ⊢
      rw [if_pos (show apartOK e H o.op [] = true from rfl)]
      have hv2 : aop e H o.op = .val v H' := hv
      unfold WR
      simp only [hv2]
      exact fin
    ·simp only [hv] at h; cases h
   ·have hk' : o.op.isCall = false := by simpa using hk
    have ef : frzO e H o = H := by unfold frzO; rw [if_neg hk]
    have et : ∀ K, thawO e H o K = K := fun K => by unfold thawO; rw [if_neg hk]
    simp only [hk', Bool.false_eq_true, if_false, ef, et] at h
    by_cases hok : apartOK e H o.op o.chk = false
    ·rw [if_pos hok] at h; cases h
    rw [if_neg hok] at h
    have hok2 : apartOK e H o.op o.chk = true := by simpa using hok
    rw [if_neg (by rw [hk']; simp), if_pos hok2]
    unfold WR
    split at h <;> rename_i hv
    ·simp only [hv]; exact wops_eval hcf rest _ _ _ _ _ h hQ
    ·simp only [hv]; exact wops_eval hcf rest _ _ _ _ _ h hQ
    ·exact absurd (aop_call hv) hk
    ·cases h
    ·simp only [hv]; cases h; exact hQ
    ·cases h
theorem rds_iter {c : ACode} {f : Env → Heap → Option (AExit × Env × Heap)} (hf : ∀ {Q : Post} (e : Env) (H : Heap) (x : AExit) (e1 : Env) (H1 : Heap), f e H = some (x, e1, H1) → Q x e1 H1 → WC T c e H Q) {Q : Post} :
  ∀ (k : Nat) (e : Env) (H : Heap) (x : AExit) (e1 : Env) (H1 : Heap), iter k f e H = some (x, e1, H1) → Q x e1 H1 → rds (WC T c) k e H Q
 | 0, _, _, _, _, _, h, _ => by simp only [iter] at h; cases h
 | k + 1, e, H, x, e1, H1, h, hQ => by
  simp only [iter] at h
  split at h
  ·rename_i e2 H2 h2
   exact hf _ _ _ _ _ h2 (rds_iter hf k _ _ _ _ _ h hQ)
  ·rename_i hne
   refine hf _ _ _ _ _ h ?_
   cases x with
   | norm => exact absurd h (hne _ _)
   | exit i => exact hQ
   | ret => exact hQ
   | pan v => exact hQ
theorem wc_eval {cf : CallFn} (hcf : ∀ f args H r H1, cf f args H = some (r, H1) → WD T f args H (fun r' H' => r' = r ∧ H' = H1)) (k : Nat) :
  ∀ (c : ACode) {Q : Post} (e : Env) (H : Heap) (x : AExit) (e1 : Env) (H1 : Heap), evalCode cf k c e H = some (x, e1, H1) → Q x e1 H1 → WC T c e H Q := by
 intro c
 induction c with
 | skip => intro Q e H x e1 H1 h hQ; simp only [evalCode] at h; cases h; exact hQ
 | ops l => intro Q e H x e1 H1 h hQ; exact wops_eval hcf l _ _ _ _ _ h hQ
 | seq a b iha ihb =>
  intro Q e H x e1 H1 h hQ
  simp only [evalCode] at h
  split at h
  ·rename_i e2 H2 h2
   exact iha _ _ _ _ _ h2 (ihb _ _ _ _ _ h hQ)
  ·rename_i hne
   refine iha _ _ _ _ _ h ?_
   cases x with
   | norm => exact absurd h (hne _ _)
   | exit i => exact hQ
   | ret => exact hQ
   | pan v => exact hQ
 | cond c a b iha ihb =>
  intro Q e H x e1 H1 h hQ
  simp only [evalCode] at h
  simp only [WC]
  split at h
  ·rename_i hv; rw [hv]; exact iha _ _ _ _ _ h hQ
  ·rename_i hv; rw [hv]; exact ihb _ _ _ _ _ h hQ
  ·cases h
 | block id c ih =>
  intro Q e H x e1 H1 h hQ
  simp only [evalCode] at h
  split at h
  ·rename_i i e2 H2 h2
   refine ih _ _ _ _ _ h2 ?_
   simp only [blockK]
   split at h <;> rename_i hi
   ·rw [if_pos hi]; cases h; exact hQ
   ·rw [if_neg hi]; cases h; exact hQ
  ·rename_i hne
   refine ih _ _ _ _ _ h ?_
   cases x with
   | norm => exact hQ
   | exit i => exact absurd h (hne _ _ _)
   | ret => exact hQ
   | pan v => exact hQ
 | loop c ih => intro Q e H x e1 H1 h hQ; exact ⟨k, rds_iter (fun e H x e1 H1 h hQ => ih e H x e1 H1 h hQ) k _ _ _ _ _ h hQ⟩
 | exit id => intro Q e H x e1 H1 h hQ; simp only [evalCode] at h; cases h; exact hQ
 | ret => intro Q e H x e1 H1 h hQ; simp only [evalCode] at h; cases h; exact hQ
 | range f ps cz bd => intro Q e H x e1 H1 h; simp only [evalCode] at h; cases h
/-- Behind a call below whose first block nothing has turned, the blocks fit as they did. -/
theorem Step.below {G : Nat} {ρ : Nat → Place} {H : Heap} {w w' : World} (hr : Rel G ρ H w) (hb : RowKit.Below w.heap.size w w') : Step G ρ H w ρ H w' := by
 have hlive : ∀ (b : Nat) (o : AObj), H[b]? = some o → o.live = true → w'.heap[(ρ b).blk]? = w.heap[(ρ b).blk]? := fun b o hH hl => hb.block _ (lt_of_live (hr.obj b o hH) hl)
 refine ⟨⟨fun b o hH => (hr.obj b o hH).mono (Nat.le_refl _) rfl (fun _ _ => rfl) (hlive b o hH), hr.inj, hr.glob, hr.many⟩, Nat.le_refl _, fun _ _ => rfl, hb.os, hb.tape, hb.output, hb.size, fun c hc _ => hb.block c hc, fun _ h => .inl h, fun c r h => ⟨r, ?_⟩, fun _ u h hl => .inl ⟨u, h, hl⟩⟩
 rw [hb.block c (Array.getElem?_eq_some_iff.1 h).1]; exact h
theorem WD.of_calls {f : FuncId} {args : List Value} {H : Heap} {R : FRes → Heap → Prop} {v : Value} (hv : closedV v = true)
  (he : ∀ (args' : Array Value) (w : World), (callFunc f args').run T.P w = .ok (.enter f args') w)
  (h : ∀ (ρ : Nat → Place) (w : World) (args' : Array Value), Rel T.G ρ H w → VL H.length ρ args args'.toList → Calls T.P f args' w (fun e w' => e = .returned v ∧ RowKit.Below w.heap.size w w'))
  (hR : R (.ret v) H) : WD T f args H R := by
 intro ρ w args' hr ha
 refine .inr ⟨he args' w, (h ρ w args' hr ha).mono fun en w' ⟨h1, h2⟩ => ⟨_, H, hR, ρ, Step.below hr h2, v, h1, .of_closed hv⟩⟩
theorem WD.lib {Tab : Table} (hT : TableOK T.P T.G Tab) {f : FuncId} {g : List Value → Heap → Option Value} (hf : Tab f = some (.lib g)) {args : List Value} {v : Value} {H : Heap} (hv : g args H = some v) {R : FRes → Heap → Prop} (hR : R (.ret v) H) : WD T f args H R :=
 have h := hT f _ hf args H v hv
 .of_calls h.1 h.2.1 h.2.2 hR
theorem WD.ext {Tab : Table} (hT : TableOK T.P T.G Tab) {f : FuncId} {g : List Value → Option Value} (hf : Tab f = some (.ext g)) {args : List Value} {v : Value} (hv : g args = some v) {H : Heap} {R : FRes → Heap → Prop} (hR : R (.ret v) H) : WD T f args H R := by
 intro ρ w args' hr ha
 obtain ⟨h1, h2⟩ := hT f _ hf args v hv
 exact .inl ⟨v, h2 _ ρ args' ha w, _, _, hR, ρ, Step.refl hr, v, rfl, .of_closed h1⟩
theorem rcv_eval {Tab : Table} (hT : TableOK T.P T.G Tab) {cf : CallFn} (hcf : ∀ f args H r H1, cf f args H = some (r, H1) → WD T f args H (fun r' H' => r' = r ∧ H' = H1)) {k : Nat} {g : FuncId} {caps : List Value} {rv : Value} {H H2 : Heap} {K : Heap → Prop}
  (h : evalRcv Tab cf k g caps rv H = some H2) (hK : K H2) : WRcv T g caps rv H K := by
 unfold evalRcv at h
 split at h
 case h_2 => cases h
 rename_i n t al rest hg
 split at h
 case isFalse => cases h
 rename_i hl
 refine ⟨n, t, al, rest, hT g _ hg, hl, ?_⟩
 split at h
 case h_2 => cases h
 rename_i e1 H1 h1
 refine wops_eval hcf al _ _ _ _ _ h1 ?_
 show WC T rest e1 H1 _
 split at h
 ·rename_i e2 H3 h2
  cases h
  exact wc_eval hcf k rest _ _ _ _ _ h2 hK
 ·rename_i e2 H3 h2
  cases h
  exact wc_eval hcf k rest _ _ _ _ _ h2 hK
 ·cases h
theorem def_eval {Tab : Table} (hT : TableOK T.P T.G Tab) {cf : CallFn} (hcf : ∀ f args H r H1, cf f args H = some (r, H1) → WD T f args H (fun r' H' => r' = r ∧ H' = H1)) {k : Nat} {res : List AResult} {r : FRes} {H1 : Heap} :
  ∀ (d : ADef) (e : Env) (H : Heap), evalDef Tab cf k res d e H = some (r, H1) → WDef T res (fun r' H' => r' = r ∧ H' = H1) d e H := by
 have fin : ∀ (e : Env) (K : Heap), resL e res K = some (r, H1) → resK e res (fun r' H' => r' = r ∧ H' = H1) K := fun e K h => by
  unfold resL at h
  unfold resK
  split at h
  ·rename_i vs hvs
   cases h
   rw [hvs]
   exact ⟨rfl, rfl⟩
  ·cases h
 intro d
 induction d with
 | pre a d ih =>
  intro e H h
  simp only [evalDef] at h
  split at h
  ·rename_i e2 H2 h2
   exact wc_eval hcf k a _ _ _ _ _ h2 (ih _ _ h)
  ·cases h
 | here t g cap rest =>
  intro e H h
  simp only [evalDef] at h
  split at h
  ·rename_i e2 H2 h2
   obtain ⟨H3, h3, h4⟩ := Option.bind_eq_some_iff.1 h
   exact wc_eval hcf k rest _ _ _ _ _ h2 (rcv_eval hT hcf h3 (fin _ _ h4))
  ·rename_i e2 H2 h2
   obtain ⟨H3, h3, h4⟩ := Option.bind_eq_some_iff.1 h
   exact wc_eval hcf k rest _ _ _ _ _ h2 (rcv_eval hT hcf h3 (fin _ _ h4))
  ·rename_i v e2 H2 h2
   obtain ⟨H3, h3, h4⟩ := Option.bind_eq_some_iff.1 h
   exact wc_eval hcf k rest _ _ _ _ _ h2 (rcv_eval hT hcf h3 (fin _ _ h4))
  ·cases h
theorem wd_eval {Tab : Table} (hm : T.P.follows .mixedOrders = true) (hT : TableOK T.P T.G Tab) : ∀ (k : Nat) (f : FuncId) (args : List Value) (H : Heap) (r : FRes) (H1 : Heap), evalFn Tab k f args H = some (r, H1) → WD T f args H (fun r' H' => r' = r ∧ H' = H1) := by
 intro k
 induction k with
 | zero => intro f args H r H1 h; simp only [evalFn] at h; cases h
 | succ k ih =>
  intro f args H r H1 h
  simp only [evalFn] at h
  split at h
  ·rename_i n body res hf
   split at h
   ·rename_i hl
    refine WD.of hm (hT f _ hf) hl ?_
    unfold finish at h
    split at h
    ·rename_i e2 H2 h2
     refine wc_eval ih k body _ _ _ _ _ h2 ?_
     simp only [retK]
     split at h
     ·rename_i vs hvs; cases h; rw [hvs]; exact ⟨rfl, rfl⟩
     ·cases h
    ·rename_i e2 H2 h2
     refine wc_eval ih k body _ _ _ _ _ h2 ?_
     simp only [retK]
     split at h
     ·rename_i vs hvs; cases h; rw [hvs]; exact ⟨rfl, rfl⟩
     ·cases h
    ·rename_i v e2 H2 h2
     cases h
     exact wc_eval ih k body _ _ _ _ _ h2 ⟨rfl, rfl⟩
    ·cases h
   ·cases h
  ·rename_i n d res hf
   split at h
   ·rename_i hl
    exact WD.dfr hm (hT f _ hf) hl (def_eval hT ih d _ _ h)
   ·cases h
  ·cases h
  ·rename_i g hf
   cases hv : g args with
   | none => rw [hv] at h; cases h
   | some v => rw [hv] at h; cases h; exact WD.ext hT hf hv ⟨rfl, rfl⟩
  ·rename_i g hf
   cases hv : g args H with
   | none => rw [hv] at h; cases h
   | some v => rw [hv] at h; cases h; exact WD.lib hT hf hv ⟨rfl, rfl⟩
  ·cases h
theorem WD.ev {Tab : Table} (hm : T.P.follows .mixedOrders = true) (hT : TableOK T.P T.G Tab) {k : Nat} {f : FuncId} {args : List Value} {H H1 : Heap} {r : FRes} {R : FRes → Heap → Prop}
  (h : evalFn Tab k f args H = some (r, H1)) (hR : R r H1) : WD T f args H R :=
 (wd_eval hm hT k f args H r H1 h).mono (by rintro r' H' ⟨rfl, rfl⟩; exact hR)
end
section
variable {T : Pg}
/-- A guarded step. -/
def WG (T : Pg) (v : Value) (want : Bool) (d : Option Nat) (op : AOp) (chk : List (Nat × Nat)) (rest : List AOper) (e : Env) (H : Heap) (Q : Post) : Prop :=
 match v with
 | .bool b => if b = want then WOps T (⟨d, op, none, chk⟩ :: rest) e H Q else WOps T rest (putO e d undef) H Q
 | _ => WOps T rest (putO e d undef) H Q
/-- A load that is laid before stores. -/
def WA (T : Pg) (b : Bool) (d : Option Nat) (op : AOp) (rest : List AOper) (e : Env) (H : Heap) (Q : Post) : Prop :=
 if b = true then WR T (WOps T rest) (aop e H op) d e H Q else False
/-- A branch; the two ways stay as they are till it is known which. -/
def WB (T : Pg) (v : Value) (a b : ACode) (e : Env) (H : Heap) (Q : Post) : Prop := WIf v (WC T a e H Q) (WC T b e H Q)
theorem wops_nil (e : Env) (H : Heap) (Q : Post) : WOps T [] e H Q = Q .norm e H := propext ⟨fun h => h, fun h => h⟩
theorem wops_cons (d : Option Nat) (op : AOp) (rest : List AOper) (e : Env) (H : Heap) (Q : Post) : WOps T (⟨d, op, none, []⟩ :: rest) e H Q = WR T (WOps T rest) (aop e H op) d e H Q := by
 simp only [WOps, wantedA, List.isEmpty_nil, Bool.not_true, Bool.and_false, Bool.false_eq_true, if_false, apartOK, if_true]
theorem wops_guard (d : Option Nat) (op : AOp) (t : Nat) (want : Bool) (chk : List (Nat × Nat)) (rest : List AOper) (e : Env) (H : Heap) (Q : Post) :
  WOps T (⟨d, op, some (t, want), chk⟩ :: rest) e H Q = WG T (get e t) want d op chk rest e H Q := by
 simp only [WOps, wantedA, WG]
 generalize get e t = v
 cases v <;> simp
 rename_i b
 cases b <;> cases want <;> simp
theorem wops_chk (d : Option Nat) (x : Operand) (c : Nat × Nat) (chk : List (Nat × Nat)) (rest : List AOper) (e : Env) (H : Heap) (Q : Post) :
  WOps T (⟨d, .load1 x, none, c :: chk⟩ :: rest) e H Q = WA T (apartOK e H (.load1 x) (c :: chk)) d (.load1 x) rest e H Q := by
 simp only [WOps, wantedA, WA, AOp.isCall, Bool.false_and, Bool.false_eq_true, if_false]
theorem wops_chkN (d : Option Nat) (n : Nat) (x : Operand) (c : Nat × Nat) (chk : List (Nat × Nat)) (rest : List AOper) (e : Env) (H : Heap) (Q : Post) :
  WOps T (⟨d, .loadN n x, none, c :: chk⟩ :: rest) e H Q = WA T (apartOK e H (.loadN n x) (c :: chk)) d (.loadN n x) rest e H Q := by
 simp only [WOps, wantedA, WA, AOp.isCall, Bool.false_and, Bool.false_eq_true, if_false]
/-- A call while some blocks are not to be written. -/
def WV (T : Pg) (bs : List Nat) (a : ARes) (d : Option Nat) (rest : List AOper) (e : Env) (H : Heap) (Q : Post) : Prop :=
 (bs.all fun b => (hget H b).isRow) = true ∧ WRk T bs (WOps T rest) a d e H Q
def keepV (v : Value) (l : List Nat) : List Nat :=
 match v with
 | .pointer (some ⟨b, _, none⟩) => b :: l
 | _ => l
theorem wops_chkC (d : Option Nat) (f : Operand) (args : List Operand) (c : Nat × Nat) (chk : List (Nat × Nat)) (rest : List AOper) (e : Env) (H : Heap) (Q : Post) :
  WOps T (⟨d, .callv f args, none, c :: chk⟩ :: rest) e H Q = WV T (keepBs e (c :: chk)) (aop e H (.callv f args)) d rest e H Q := by
 simp only [WOps, wantedA, WV, AOp.isCall, List.isEmpty_cons, Bool.not_false, Bool.and_true, if_true]
 rfl
theorem keepBs_nil (e : Env) : keepBs e [] = [] := rfl
theorem keepBs_cons (e : Env) (t n : Nat) (l : List (Nat × Nat)) : keepBs e ((t, n) :: l) = keepV (get e t) (keepBs e l) := by
 rw [keepBs]
 unfold keepV
 first | rfl | (generalize get e t = v; split <;> simp_all)
theorem keepV_ptr (b o : Nat) (l : List Nat) : keepV (.pointer (some ⟨b, o, none⟩)) l = b :: l := rfl
theorem keepV_nil (l : List Nat) : keepV (.pointer none) l = l := rfl
theorem frz_ro : ∀ (bs : List Nat) {H : Heap}, (∀ b ∈ bs, ∃ cs u, hget H b = .row cs u false) → frz H bs = H ∧ ∀ K, thaw H bs K = K
 | [], H, _ => ⟨rfl, fun _ => rfl⟩
 | b :: bs, H, h => by
  obtain ⟨cs, u, hb⟩ := h b (by simp)
  have h1 : frz1 H b = H := by unfold frz1; rw [hb]
  obtain ⟨h2, h3⟩ := frz_ro bs (H := H) fun c hc => h c (by simp [hc])
  refine ⟨by rw [frz, h1, h2], fun K => ?_⟩
  rw [thaw, h1, h3, thaw1, hb]
theorem WV.ro {bs : List Nat} {f : FuncId} {args : List Value} {d : Option Nat} {rest : List AOper} {e : Env} {H : Heap} {Q : Post} (hb : ∀ b ∈ bs, ∃ cs u, hget H b = .row cs u false)
  (h : WD T f args H (callK (WOps T rest) d e Q)) : WV T bs (.call f args) d rest e H Q := by
 refine ⟨List.all_eq_true.2 fun b hm => ?_, ?_⟩
 ·obtain ⟨cs, u, h1⟩ := hb b hm
  rw [h1]; rfl
 ·unfold WRk
  obtain ⟨h2, h3⟩ := frz_ro bs hb
  simp only [h2, h3]
  exact h
theorem WV.of {bs : List Nat} {f : FuncId} {args : List Value} {d : Option Nat} {rest : List AOper} {e : Env} {H : Heap} {Q : Post} (hb : ∀ b ∈ bs, (hget H b).isRow = true)
  (h : WD T f args (frz H bs) (fun r H1 => callK (WOps T rest) d e Q r (thaw H bs H1))) : WV T bs (.call f args) d rest e H Q :=
 ⟨List.all_eq_true.2 hb, h⟩
theorem frz1_length (H : Heap) (b : Nat) : (frz1 H b).length = H.length := by
 unfold frz1
 split <;> simp
theorem frz_length : ∀ (bs : List Nat) (H : Heap), (frz H bs).length = H.length
 | [], _ => rfl
 | b :: bs, H => by rw [frz, frz_length bs, frz1_length]
theorem frz1_set_back (H : Heap) (b : Nat) (g : Heap) : thaw1 H b (frz1 H b ++ g) = H ++ g := by
 unfold thaw1 frz1
 split
 ·rename_i cs u hb
  simp only
  have h1 := hget_some hb rfl
  have := (List.getElem?_eq_some_iff.1 h1).1
  rw [List.set_append_left _ _ (by simpa using this), List.set_set]
  congr 1
  obtain ⟨h2, h3⟩ := List.getElem?_eq_some_iff.1 h1
  rw [← h3]
  exact List.set_getElem_self h2
 ·rename_i hne
  split
  ·rename_i cs u hb; exact absurd hb (hne cs u)
  ·rfl
theorem thaw_frz : ∀ (bs : List Nat) (H g : Heap), thaw H bs (frz H bs ++ g) = H ++ g
 | [], _, _ => rfl
 | b :: bs, H, g => by rw [frz, thaw, thaw_frz bs, frz1_set_back]
theorem thaw_frz0 (bs : List Nat) (H : Heap) : thaw H bs (frz H bs) = H := by
 have := thaw_frz bs H []
 simpa using this
theorem wg_true (d : Option Nat) (op : AOp) (chk : List (Nat × Nat)) (rest : List AOper) (e : Env) (H : Heap) (Q : Post) : WG T (.bool true) true d op chk rest e H Q = WOps T (⟨d, op, none, chk⟩ :: rest) e H Q := propext ⟨fun h => h, fun h => h⟩
theorem wg_false (d : Option Nat) (op : AOp) (chk : List (Nat × Nat)) (rest : List AOper) (e : Env) (H : Heap) (Q : Post) : WG T (.bool false) false d op chk rest e H Q = WOps T (⟨d, op, none, chk⟩ :: rest) e H Q := propext ⟨fun h => h, fun h => h⟩
theorem wg_tf (d : Option Nat) (op : AOp) (chk : List (Nat × Nat)) (rest : List AOper) (e : Env) (H : Heap) (Q : Post) : WG T (.bool true) false d op chk rest e H Q = WOps T rest (putO e d undef) H Q := propext ⟨fun h => h, fun h => h⟩
theorem wg_ft (d : Option Nat) (op : AOp) (chk : List (Nat × Nat)) (rest : List AOper) (e : Env) (H : Heap) (Q : Post) : WG T (.bool false) true d op chk rest e H Q = WOps T rest (putO e d undef) H Q := propext ⟨fun h => h, fun h => h⟩
theorem wg_undef (want : Bool) (d : Option Nat) (op : AOp) (chk : List (Nat × Nat)) (rest : List AOper) (e : Env) (H : Heap) (Q : Post) : WG T undef want d op chk rest e H Q = WOps T rest (putO e d undef) H Q := propext ⟨fun h => h, fun h => h⟩
theorem putO_some (e : Env) (d : Nat) (v : Value) : putO e (some d) v = put e d v := rfl
theorem putO_none (e : Env) (v : Value) : putO e none v = e := rfl
theorem wa_true (d : Option Nat) (op : AOp) (rest : List AOper) (e : Env) (H : Heap) (Q : Post) : WA T true d op rest e H Q = WR T (WOps T rest) (aop e H op) d e H Q := propext ⟨fun h => h, fun h => h⟩
theorem wr_val (next : Env → Heap → Post → Prop) (v : Value) (H' : Heap) (d : Nat) (e : Env) (H : Heap) (Q : Post) : WR T next (.val v H') (some d) e H Q = next (put e d v) H' Q := propext ⟨fun h => h, fun h => h⟩
theorem wr_val0 (next : Env → Heap → Post → Prop) (v : Value) (H' : Heap) (e : Env) (H : Heap) (Q : Post) : WR T next (.val v H') none e H Q = next e H' Q := propext ⟨fun h => h, fun h => h⟩
theorem wr_skip0 (next : Env → Heap → Post → Prop) (H' : Heap) (e : Env) (H : Heap) (Q : Post) : WR T next (.skip H') none e H Q = next e H' Q := propext ⟨fun h => h, fun h => h⟩
theorem wr_pan (next : Env → Heap → Post → Prop) (v : Value) (d : Option Nat) (e : Env) (H : Heap) (Q : Post) : WR T next (.pan v) d e H Q = Q (.pan v) e H := propext ⟨fun h => h, fun h => h⟩
theorem wr_call (next : Env → Heap → Post → Prop) (f : FuncId) (args : List Value) (d : Option Nat) (e : Env) (H : Heap) (Q : Post) : WR T next (.call f args) d e H Q = WD T f args H (callK next d e Q) := propext ⟨fun h => h, fun h => h⟩
theorem wr_yield (next : Env → Heap → Post → Prop) (b : Nat) (args : List Value) (d : Option Nat) (e : Env) (H : Heap) (Q : Post) : WR T next (.yield b args) d e H Q = WY T b args H (callK next d e Q) := propext ⟨fun h => h, fun h => h⟩
theorem wc_range (f : Operand) (ps : List Nat) (cz bd : ACode) (e : Env) (H : Heap) (Q : Post) : WC T (.range f ps cz bd) e H Q = WRange T (aev e f) ps cz bd e H Q := propext ⟨fun h => h, fun h => h⟩
theorem WRange.of {f : FuncId} {n : Nat} {body : ACode} {res : List AResult} (hT : Laid T f (.code n body res)) {first captured : Array Value} {ps : List Nat} {cz bd : ACode} {e : Env} {H : Heap} {Q : Post}
  (h : WD T f (first.toList ++ [.func (.yield H.length) #[] #[]] ++ captured.toList) (H ++ [.loop T.P T.G .ready none e ps cz bd]) (rangeK H.length e Q)) : WRange T (.func (.func f) first captured) ps cz bd e H Q := ⟨⟨n, body, res, hT⟩, h⟩
theorem asK_norm (bd : ACode) (Q : Post) (e : Env) (H : Heap) : asK T bd Q .norm e H = WC T bd e H Q := propext ⟨fun h => h, fun h => h⟩
theorem endK_norm (b : Nat) (env : Env) (ps : List Nat) (cz bd : ACode) (R : FRes → Heap → Prop) (e : Env) (H : Heap) : endK T b env ps cz bd R .norm e H = R (.ret (.bool true)) (H.set b (.loop T.P T.G .ready none env ps cz bd)) := propext ⟨fun h => h, fun h => h⟩
theorem endK_ret (b : Nat) (env : Env) (ps : List Nat) (cz bd : ACode) (R : FRes → Heap → Prop) (e : Env) (H : Heap) : endK T b env ps cz bd R .ret e H = R (.ret (.bool false)) (H.set b (.loop T.P T.G .done (some none) env ps cz bd)) := propext ⟨fun h => h, fun h => h⟩
theorem endK_exit (b : Nat) (env : Env) (ps : List Nat) (cz bd : ACode) (R : FRes → Heap → Prop) (i : Nat) (e : Env) (H : Heap) : endK T b env ps cz bd R (.exit i) e H = R (.ret (.bool false)) (H.set b (.loop T.P T.G .done (some (some i)) env ps cz bd)) := propext ⟨fun h => h, fun h => h⟩
theorem putL_nil (e : Env) (vs : List Value) : putL e [] vs = e := by cases vs <;> rfl
theorem putL_cons (e : Env) (p : Nat) (ps : List Nat) (v : Value) (vs : List Value) : putL e (p :: ps) (v :: vs) = putL (put e p v) ps vs := rfl
theorem callK_ret (next : Env → Heap → Post → Prop) (d : Nat) (e : Env) (Q : Post) (v : Value) (H : Heap) : callK next (some d) e Q (.ret v) H = next (put e d v) H Q := propext ⟨fun h => h, fun h => h⟩
theorem callK_ret0 (next : Env → Heap → Post → Prop) (e : Env) (Q : Post) (v : Value) (H : Heap) : callK next none e Q (.ret v) H = next e H Q := propext ⟨fun h => h, fun h => h⟩
theorem wc_skip (e : Env) (H : Heap) (Q : Post) : WC T .skip e H Q = Q .norm e H := propext ⟨fun h => h, fun h => h⟩
theorem wc_ops (l : List AOper) (e : Env) (H : Heap) (Q : Post) : WC T (.ops l) e H Q = WOps T l e H Q := propext ⟨fun h => h, fun h => h⟩
theorem wc_seq (a b : ACode) (e : Env) (H : Heap) (Q : Post) : WC T (.seq a b) e H Q = WC T a e H (seqK (WC T b) Q) := propext ⟨fun h => h, fun h => h⟩
theorem wc_cond (c : Operand) (a b : ACode) (e : Env) (H : Heap) (Q : Post) : WC T (.cond c a b) e H Q = WB T (aev e c) a b e H Q := propext ⟨fun h => h, fun h => h⟩
theorem wc_block (id : Nat) (c : ACode) (e : Env) (H : Heap) (Q : Post) : WC T (.block id c) e H Q = WC T c e H (blockK id Q) := propext ⟨fun h => h, fun h => h⟩
theorem wc_exit (id : Nat) (e : Env) (H : Heap) (Q : Post) : WC T (.exit id) e H Q = Q (.exit id) e H := propext ⟨fun h => h, fun h => h⟩
theorem wc_ret (e : Env) (H : Heap) (Q : Post) : WC T .ret e H Q = Q .ret e H := propext ⟨fun h => h, fun h => h⟩
theorem wc_loop (c : ACode) (e : Env) (H : Heap) (Q : Post) : WC T (.loop c) e H Q = WLoop T c e H Q := propext ⟨fun h => h, fun h => h⟩
theorem seqK_norm (n : Env → Heap → Post → Prop) (Q : Post) (e : Env) (H : Heap) : seqK n Q .norm e H = n e H Q := propext ⟨fun h => h, fun h => h⟩
theorem seqK_ret (n : Env → Heap → Post → Prop) (Q : Post) (e : Env) (H : Heap) : seqK n Q .ret e H = Q .ret e H := propext ⟨fun h => h, fun h => h⟩
theorem seqK_exit (n : Env → Heap → Post → Prop) (Q : Post) (i : Nat) (e : Env) (H : Heap) : seqK n Q (.exit i) e H = Q (.exit i) e H := propext ⟨fun h => h, fun h => h⟩
theorem seqK_pan (n : Env → Heap → Post → Prop) (Q : Post) (v : Value) (e : Env) (H : Heap) : seqK n Q (.pan v) e H = Q (.pan v) e H := propext ⟨fun h => h, fun h => h⟩
theorem blockK_norm (id : Nat) (Q : Post) (e : Env) (H : Heap) : blockK id Q .norm e H = Q .norm e H := propext ⟨fun h => h, fun h => h⟩
theorem blockK_ret (id : Nat) (Q : Post) (e : Env) (H : Heap) : blockK id Q .ret e H = Q .ret e H := propext ⟨fun h => h, fun h => h⟩
theorem blockK_pan (id : Nat) (Q : Post) (v : Value) (e : Env) (H : Heap) : blockK id Q (.pan v) e H = Q (.pan v) e H := propext ⟨fun h => h, fun h => h⟩
theorem blockK_exit (id i : Nat) (Q : Post) (e : Env) (H : Heap) : blockK id Q (.exit i) e H = if i = id then Q .norm e H else Q (.exit i) e H := propext ⟨fun h => h, fun h => h⟩
theorem wb_true (a b : ACode) (e : Env) (H : Heap) (Q : Post) : WB T (.bool true) a b e H Q = WC T a e H Q := propext ⟨fun h => h, fun h => h⟩
theorem wb_false (a b : ACode) (e : Env) (H : Heap) (Q : Post) : WB T (.bool false) a b e H Q = WC T b e H Q := propext ⟨fun h => h, fun h => h⟩
theorem put_zero (v u : Value) (e : Env) : put (u :: e) 0 v = v :: e := rfl
theorem put_succ (v u : Value) (e : Env) (n : Nat) : put (u :: e) (n + 1) v = u :: put e n v := rfl
theorem put_succ8 (v a b c d f g h i : Value) (e : Env) (n : Nat) : put (a :: b :: c :: d :: f :: g :: h :: i :: e) (n + 8) v = a :: b :: c :: d :: f :: g :: h :: i :: put e n v := rfl
theorem get_succ8 (a b c d f g h i : Value) (e : Env) (n : Nat) : get (a :: b :: c :: d :: f :: g :: h :: i :: e) (n + 8) = get e n := rfl
theorem pad_zero (l : List Value) : pad 0 l = l := rfl
theorem pad_nil (n : Nat) : pad (n + 1) [] = undef :: pad n [] := rfl
theorem pad_cons (n : Nat) (v : Value) (l : List Value) : pad (n + 1) (v :: l) = v :: pad n l := rfl
theorem ex_env {e : Env} {F : (Nat → Value) → Env} (h : e = F (get e)) : ∃ x, e = F x := ⟨get e, h⟩
theorem get_nil (t : Nat) : get [] t = undef := by cases t <;> rfl
theorem get_zero (v : Value) (e : Env) : get (v :: e) 0 = v := rfl
theorem get_succ (v : Value) (e : Env) (t : Nat) : get (v :: e) (t + 1) = get e t := rfl
theorem aev_tmp (e : Env) (t : Nat) : aev e (.tmp t) = get e t := rfl
theorem aev_const (e : Env) (v : Value) : aev e (.const v) = v := rfl
theorem aev_global (e : Env) (g : Nat) : aev e (.global g) = .pointer (some ⟨g, 0, none⟩) := rfl
theorem aev_func (e : Env) (f : Nat) : aev e (.func f) = .func (.func f) #[] #[] := rfl
theorem ofO_some (v : Value) (H : Heap) : ofO (some v) H = .val v H := rfl
theorem retK_ret (res : List AResult) (R : FRes → Heap → Prop) (e : Env) (H : Heap) : retK res R .ret e H = (match resultsL e H res with | some vs => R (.ret (pack vs)) H | none => False) := propext ⟨fun h => h, fun h => h⟩
theorem retK_norm (res : List AResult) (R : FRes → Heap → Prop) (e : Env) (H : Heap) : retK res R .norm e H = (match resultsL e H res with | some vs => R (.ret (pack vs)) H | none => False) := propext ⟨fun h => h, fun h => h⟩
theorem retK_pan (res : List AResult) (R : FRes → Heap → Prop) (v : Value) (e : Env) (H : Heap) : retK res R (.pan v) e H = R (.pan v) H := propext ⟨fun h => h, fun h => h⟩
theorem pack_one (v : Value) : pack [v] = v := rfl
theorem pack_two (u v : Value) (l : List Value) : pack (u :: v :: l) = .tuple (u :: v :: l).toArray := rfl
theorem pack_nil : pack [] = .tuple #[] := rfl
/-! Arithmetic. -/
theorem bin_add (k : IntKind) (a b : Int) : binV .add (.int k a) (.int k b) = some (.int k (k.wrap (a + b))) := by simp [binV, intBin, Op.intArith]; rfl
theorem bin_sub (k : IntKind) (a b : Int) : binV .sub (.int k a) (.int k b) = some (.int k (k.wrap (a - b))) := by simp [binV, intBin, Op.intArith]; rfl
theorem bin_mul (k : IntKind) (a b : Int) : binV .mul (.int k a) (.int k b) = some (.int k (k.wrap (a * b))) := by simp [binV, intBin, Op.intArith]; rfl
theorem bin_eql (k : IntKind) (a b : Int) : binV .eql (.int k a) (.int k b) = some (.bool (decide (a = b))) := by
 have : pr (Op.intCmp .eql a b) = some (.bool (a == b)) := rfl
 simp only [binV, intBin, if_true, this]
 rfl
theorem bin_neq (k : IntKind) (a b : Int) : binV .neq (.int k a) (.int k b) = some (.bool !(decide (a = b))) := by
 have : pr (Op.intCmp .neq a b) = some (.bool (a != b)) := rfl
 simp only [binV, intBin, if_true, this]
 rfl
theorem bin_lss (k : IntKind) (a b : Int) : binV .lss (.int k a) (.int k b) = some (.bool (decide (a < b))) := by simp [binV, intBin, Op.intCmp]; rfl
theorem bin_leq (k : IntKind) (a b : Int) : binV .leq (.int k a) (.int k b) = some (.bool (decide (a ≤ b))) := by simp [binV, intBin, Op.intCmp]; rfl
theorem bin_gtr (k : IntKind) (a b : Int) : binV .gtr (.int k a) (.int k b) = some (.bool (decide (b < a))) := by simp [binV, intBin, Op.intCmp]; rfl
theorem bin_geq (k : IntKind) (a b : Int) : binV .geq (.int k a) (.int k b) = some (.bool (decide (b ≤ a))) := by simp [binV, intBin, Op.intCmp]; rfl
/-! Cells. -/
theorem cof_int (k : IntKind) (x : Int) : cellsOf (.int k x) = [.int k x] := rfl
theorem cof_bool (b : Bool) : cellsOf (.bool b) = [.bool b] := rfl
theorem cof_string (b : ByteArray) : cellsOf (.string b) = [.string b] := rfl
theorem cof_ptr (b : Option Addr) : cellsOf (.pointer b) = [.pointer b] := rfl
theorem cof_sl (b : Option Addr) (l c : Nat) : cellsOf (.slice b l c) = [.slice b l c] := rfl
theorem cof_func (f : Fn) (a b : Array Value) : cellsOf (.func f a b) = [.func f a b] := rfl
theorem cof_nilFunc : cellsOf .nilFunc = [.nilFunc] := rfl
theorem cof_nilIface : cellsOf .nilIface = [.nilIface] := rfl
theorem cof_iface (t : TypeId) (v : Value) : cellsOf (.iface t v) = [.iface t v] := rfl
theorem cof_agg (l : List Value) : cellsOf (.agg l.toArray) = l := rfl
theorem one_int (k : IntKind) (x : Int) : oneCell (.int k x) = true := rfl
theorem one_bool (b : Bool) : oneCell (.bool b) = true := rfl
theorem one_string (b : ByteArray) : oneCell (.string b) = true := rfl
theorem one_ptr (b : Option Addr) : oneCell (.pointer b) = true := rfl
theorem one_sl (b : Option Addr) (l c : Nat) : oneCell (.slice b l c) = true := rfl
theorem one_func (f : Fn) (a b : Array Value) : oneCell (.func f a b) = true := rfl
theorem one_nilFunc : oneCell .nilFunc = true := rfl
theorem one_nilIface : oneCell .nilIface = true := rfl
theorem one_iface (t : TypeId) (v : Value) : oneCell (.iface t v) = true := rfl
theorem fill_nil (cs : List Value) : fillL cs [] = some cs := rfl
theorem fill_cons (cs : List Value) (o n : Nat) (v : Value) (l : List (Nat × Nat × Value)) : fillL cs ((o, n, v) :: l) = if (cellsOf v).length = n ∧ o + n ≤ cs.length then fillL (setL cs o (cellsOf v)) l else none := by rw [fillL]
theorem setL_nil (cs : List Value) (o : Nat) : setL cs o [] = cs := rfl
theorem setL_cons (cs : List Value) (o : Nat) (v : Value) (l : List Value) : setL cs o (v :: l) = setL (cs.set o v) (o + 1) l := rfl
theorem toList_mk (l : List Value) : l.toArray.toList = l := rfl
theorem agg_list (l : List Value) : (Array.mk l).toList = l := rfl
end
section
theorem bs_list (l : List UInt8) : (bs l).data.toList = l := rfl
theorem bs_size (l : List UInt8) : (bs l).size = l.length := rfl
theorem bs_inj {l m : List UInt8} (h : bs l = bs m) : l = m := by
 have := congrArg (fun s : ByteArray => s.data.toList) h
 simpa [bs] using this
theorem bs_append (l m : List UInt8) : bs l ++ bs m = bs (l ++ m) := by
 ext1
 simp [bs]
theorem bs_extract (l : List UInt8) (a b : Nat) : (bs l).extract a b = bs ((l.take b).drop a) := by
 ext1
 simp [bs, List.drop_take]
theorem hget_last (H : Heap) (o : AObj) : hget (H ++ [o]) H.length = o := by simp [hget]
theorem hget_old {H G : Heap} {b : Nat} (h : b < H.length) : hget (H ++ G) b = hget H b := by simp [hget, List.getElem?_append, h]
theorem set_old {H G : Heap} {b : Nat} (h : b < H.length) (o : AObj) : (H ++ G).set b o = H.set b o ++ G := by simp [h]
theorem hget_set (H : Heap) (b : Nat) (o : AObj) (h : b < H.length) : hget (H.set b o) b = o := by simp [hget, h]
theorem hget_set_ne (H : Heap) {b c : Nat} (o : AObj) (h : b ≠ c) : hget (H.set b o) c = hget H c := by simp [hget, h]
theorem hget_lt {H : Heap} {b : Nat} {o : AObj} (h : hget H b = o) (ho : o.live = true) : b < H.length := by
 unfold hget at h
 split at h
 ·rename_i x hx
  exact (List.getElem?_eq_some_iff.1 hx).1
 ·subst h; cases ho
/-- A later heap: what stood stands. -/
def Ext (H H' : Heap) : Prop := ∃ g, H' = H ++ g
theorem Ext.refl (H : Heap) : Ext H H := ⟨[], by simp⟩
theorem Ext.trans {H H' H'' : Heap} (h : Ext H H') (k : Ext H' H'') : Ext H H'' := by
 obtain ⟨g, rfl⟩ := h
 obtain ⟨g', rfl⟩ := k
 exact ⟨g ++ g', by simp⟩
theorem Ext.add (H : Heap) (g : Heap) : Ext H (H ++ g) := ⟨g, rfl⟩
theorem Ext.get {H H' : Heap} (h : Ext H H') {b : Nat} (hb : b < H.length) : hget H' b = hget H b := by
 obtain ⟨g, rfl⟩ := h
 exact hget_old hb
theorem Ext.len {H H' : Heap} (h : Ext H H') : H.length ≤ H'.length := by
 obtain ⟨g, rfl⟩ := h
 simp
/-! Runes. -/
def boundV (v : Value) (m : Nat) : Option Nat :=
 match v with
 | .int _ i => if 0 ≤ i ∧ i ≤ m then some i.toNat else none
 | _ => none
theorem bnd_none (e : Env) (d m : Nat) : bound e none d m = some d := rfl
theorem bnd_some (e : Env) (x : Operand) (d m : Nat) : bound e (some x) d m = boundV (aev e x) m := rfl
theorem boundV_int {k : IntKind} {i : Int} {m : Nat} (h0 : 0 ≤ i) (h1 : i ≤ m) : boundV (.int k i) m = some i.toNat := if_pos ⟨h0, h1⟩
/-! Texts. -/
theorem bin_str_eql (l m : List UInt8) : binV .eql (.string (bs l)) (.string (bs m)) = some (.bool (decide (l = m))) := by
 simp only [binV, strBin, bs_list]
 congr 2
 by_cases h : l = m <;> simp [h]
theorem bin_str_neq (l m : List UInt8) : binV .neq (.string (bs l)) (.string (bs m)) = some (.bool !(decide (l = m))) := by
 simp only [binV, strBin, bs_list]
 congr 2
 by_cases h : l = m <;> simp [h]
theorem bin_str_add {l m : List UInt8} (h : l.length + m.length ≤ 4611686018427387904) : binV .add (.string (bs l)) (.string (bs m)) = some (.string (bs (l ++ m))) := by
 simp only [binV, strBin, bs_size, if_pos h, bs_append]
theorem wr_i64 {n : Int} (h0 : -9223372036854775808 ≤ n) (h1 : n < 9223372036854775808) : IntKind.i64.wrap n = n := by
 unfold IntKind.wrap
 simp [IntKind.signed, IntKind.bits]
 split <;> omega
def Upd (b : Nat) (o : AObj) (H H' : Heap) : Prop := ∃ g, H' = H.set b o ++ g
theorem Upd.get {b : Nat} {o : AObj} {H H' : Heap} (h : Upd b o H H') (hb : b < H.length) : hget H' b = o := by
 obtain ⟨g, rfl⟩ := h
 rw [hget_old (by simpa using hb), hget_set _ _ _ hb]
theorem Upd.other {b c : Nat} {o : AObj} {H H' : Heap} (h : Upd b o H H') (hc : c < H.length) (hne : b ≠ c) : hget H' c = hget H c := by
 obtain ⟨g, rfl⟩ := h
 rw [hget_old (by simpa using hc), hget_set_ne _ _ hne]
theorem Upd.len {b : Nat} {o : AObj} {H H' : Heap} (h : Upd b o H H') : H.length ≤ H'.length := by
 obtain ⟨g, rfl⟩ := h
 simp
theorem Upd.trans {b : Nat} {o o' : AObj} {H H' H'' : Heap} (h : Upd b o H H') (k : Upd b o' H' H'') (hb : b < H.length) : Upd b o' H H'' := by
 obtain ⟨g, rfl⟩ := h
 obtain ⟨g', rfl⟩ := k
 refine ⟨g ++ g', ?_⟩
 rw [set_old (by simpa using hb)]
 simp
theorem Upd.ext {b : Nat} {o : AObj} {H H' H'' : Heap} (h : Upd b o H H') (k : Ext H' H'') : Upd b o H H'' := by
 obtain ⟨g, rfl⟩ := h
 obtain ⟨g', rfl⟩ := k
 exact ⟨g ++ g', by simp⟩
theorem Upd.here {b : Nat} (o : AObj) (H : Heap) : Upd b o H (H.set b o) := ⟨[], by simp⟩
/-! Numbers of 64 bits without a sign, as natural numbers. -/
theorem hget_base (H G : Heap) (k : Nat) : hget (H ++ G) (H.length + k) = hget G k := by
 unfold hget
 rw [List.getElem?_append_right (by omega), Nat.add_sub_cancel_left]
theorem hget_base0 (H G : Heap) : hget (H ++ G) H.length = hget G 0 := hget_base H G 0
theorem set_base (H G : Heap) (k : Nat) (o : AObj) : (H ++ G).set (H.length + k) o = H ++ G.set k o := by simp
theorem set_base0 (H G : Heap) (o : AObj) : (H ++ G).set H.length o = H ++ G.set 0 o := set_base H G 0 o
theorem hget_baseS (H G : Heap) (b k : Nat) (o : AObj) : hget (H.set b o ++ G) (H.length + k) = hget G k := by
 have := hget_base (H.set b o) G k
 rwa [List.length_set] at this
theorem hget_baseS0 (H G : Heap) (b : Nat) (o : AObj) : hget (H.set b o ++ G) H.length = hget G 0 := hget_baseS H G b 0 o
theorem set_baseS (H G : Heap) (b k : Nat) (o o' : AObj) : (H.set b o ++ G).set (H.length + k) o' = H.set b o ++ G.set k o' := by
 have := set_base (H.set b o) G k o'
 rwa [List.length_set] at this
theorem set_baseS0 (H G : Heap) (b : Nat) (o o' : AObj) : (H.set b o ++ G).set H.length o' = H.set b o ++ G.set 0 o' := set_baseS H G b 0 o o'
theorem hget_set' {H : Heap} {b : Nat} {o : AObj} (h : b < H.length) : hget (H.set b o) b = o := hget_set H b o h
theorem hget_oldS {H G : Heap} {b c : Nat} {o : AObj} (h : c < H.length) : hget (H.set b o ++ G) c = hget (H.set b o) c := hget_old (by simpa using h)
theorem set_oldS {H G : Heap} {b c : Nat} {o : AObj} (h : c < H.length) (o' : AObj) : (H.set b o ++ G).set c o' = (H.set b o).set c o' ++ G := set_old (by simpa using h) o'
theorem hget_baseSS (H G : Heap) (b c k : Nat) (o o' : AObj) : hget ((H.set b o).set c o' ++ G) (H.length + k) = hget G k := by
 have := hget_baseS (H.set b o) G c k o'
 rwa [List.length_set] at this
theorem hget_baseSS0 (H G : Heap) (b c : Nat) (o o' : AObj) : hget ((H.set b o).set c o' ++ G) H.length = hget G 0 := hget_baseSS H G b c 0 o o'
theorem set_baseSS (H G : Heap) (b c k : Nat) (o o' o'' : AObj) : ((H.set b o).set c o' ++ G).set (H.length + k) o'' = (H.set b o).set c o' ++ G.set k o'' := by
 have := set_baseS (H.set b o) G c k o' o''
 rwa [List.length_set] at this
theorem set_baseSS0 (H G : Heap) (b c : Nat) (o o' o'' : AObj) : ((H.set b o).set c o' ++ G).set H.length o'' = (H.set b o).set c o' ++ G.set 0 o'' := set_baseSS H G b c 0 o o' o''
theorem hget_oldSS {H G : Heap} {b c d : Nat} {o o' : AObj} (h : d < H.length) : hget ((H.set b o).set c o' ++ G) d = hget ((H.set b o).set c o') d := hget_old (by simpa using h)
theorem set_oldSS {H G : Heap} {b c d : Nat} {o o' : AObj} (h : d < H.length) (o'' : AObj) : ((H.set b o).set c o' ++ G).set d o'' = ((H.set b o).set c o').set d o'' ++ G := set_old (by simpa using h) o''
theorem hget_setS {H : Heap} {b c : Nat} {o o' : AObj} (h : c < H.length) : hget ((H.set b o).set c o') c = o' := hget_set _ c o' (by simpa using h)
theorem hget_ne {H : Heap} {b c : Nat} {o : AObj} (h : b ≠ c) : hget (H.set b o) c = hget H c := hget_set_ne H o h
theorem hget_c0 (o : AObj) (G : Heap) : hget (o :: G) 0 = o := rfl
theorem hget_cs (o : AObj) (G : Heap) (k : Nat) : hget (o :: G) (k + 1) = hget G k := rfl
/-! A place in code. -/
def ACode.at : ACode → List Nat → ACode
 | c, [] => c
 | .seq a _, 0 :: p => a.at p
 | .seq _ b, _ :: p => b.at p
 | .cond _ a _, 0 :: p => a.at p
 | .cond _ _ b, _ :: p => b.at p
 | .block _ c, _ :: p => c.at p
 | .loop c, _ :: p => c.at p
 | c, _ :: _ => c
def AFunc.body : AFunc → ACode
 | .code _ b _ => b
 | _ => .skip
theorem wI {n : Nat} (h : n < 9223372036854775807) : IntKind.i64.wrap ((n : Int) + 1) = ((n + 1 : Nat) : Int) := by rw [show (n : Int) + 1 = ((n + 1 : Nat) : Int) by omega]; exact wr_i64 (by omega) (by omega)
end
section
theorem kaa : type_of% @wops_nil := @wops_nil
theorem kab : type_of% @wops_cons := @wops_cons
theorem kac : type_of% @wops_guard := @wops_guard
theorem kad : type_of% @wops_chk := @wops_chk
theorem kae : type_of% @wg_true := @wg_true
theorem kaf : type_of% @wg_false := @wg_false
theorem kag : type_of% @wg_tf := @wg_tf
theorem kah : type_of% @wg_ft := @wg_ft
theorem kai : type_of% @wg_undef := @wg_undef
theorem kaj : type_of% @wa_true := @wa_true
theorem kak : type_of% @wr_val := @wr_val
theorem kal : type_of% @wr_val0 := @wr_val0
theorem kam : type_of% @wr_skip0 := @wr_skip0
theorem kan : type_of% @wr_pan := @wr_pan
theorem kao : type_of% @wr_call := @wr_call
theorem kap : type_of% @callK_ret := @callK_ret
theorem kaq : type_of% @callK_ret0 := @callK_ret0
theorem kar : type_of% @wc_skip := @wc_skip
theorem kas : type_of% @wc_ops := @wc_ops
theorem kat : type_of% @wc_seq := @wc_seq
theorem kau : type_of% @wc_cond := @wc_cond
theorem kav : type_of% @wc_block := @wc_block
theorem kaw : type_of% @wc_exit := @wc_exit
theorem kax : type_of% @wc_ret := @wc_ret
theorem kay : type_of% @wc_loop := @wc_loop
theorem kaz : type_of% @seqK_norm := @seqK_norm
theorem kba : type_of% @seqK_ret := @seqK_ret
theorem kbb : type_of% @seqK_exit := @seqK_exit
theorem kbc : type_of% @seqK_pan := @seqK_pan
theorem kbd : type_of% @blockK_norm := @blockK_norm
theorem kbe : type_of% @blockK_ret := @blockK_ret
theorem kbf : type_of% @blockK_pan := @blockK_pan
theorem kbg : type_of% @blockK_exit := @blockK_exit
theorem kbh : type_of% @wb_true := @wb_true
theorem kbi : type_of% @wb_false := @wb_false
theorem kbj : type_of% @put_zero := @put_zero
theorem kbk : type_of% @put_succ8 := @put_succ8
theorem kbl : type_of% @put_succ := @put_succ
theorem kbm : type_of% @get_succ8 := @get_succ8
theorem kbn : type_of% @pad_zero := @pad_zero
theorem kbo : type_of% @pad_nil := @pad_nil
theorem kbp : type_of% @pad_cons := @pad_cons
theorem kbq : type_of% @get_nil := @get_nil
theorem kbr : type_of% @get_zero := @get_zero
theorem kbs : type_of% @get_succ := @get_succ
theorem kbt : type_of% @aev_tmp := @aev_tmp
theorem kbu : type_of% @aev_const := @aev_const
theorem kbv : type_of% @aev_global := @aev_global
theorem kbw : type_of% @aev_func := @aev_func
theorem kbx : type_of% @ofO_some := @ofO_some
theorem kby : type_of% @retK_ret := @retK_ret
theorem kbz : type_of% @retK_norm := @retK_norm
theorem kca : type_of% @retK_pan := @retK_pan
theorem kcb : type_of% @pack_one := @pack_one
theorem kcc : type_of% @pack_two := @pack_two
theorem kcd : type_of% @pack_nil := @pack_nil
theorem kce : type_of% @bin_add := @bin_add
theorem kcf : type_of% @bin_sub := @bin_sub
theorem kcg : type_of% @bin_mul := @bin_mul
theorem kch : type_of% @bin_eql := @bin_eql
theorem kci : type_of% @bin_neq := @bin_neq
theorem kcj : type_of% @bin_lss := @bin_lss
theorem kck : type_of% @bin_leq := @bin_leq
theorem kcl : type_of% @bin_gtr := @bin_gtr
theorem kcm : type_of% @bin_geq := @bin_geq
theorem kcn : type_of% @bs_size := @bs_size
theorem kco : type_of% @boundV_int := @boundV_int
theorem kcp : type_of% @bs_extract := @bs_extract
theorem kcq : type_of% @Int.toNat_natCast := @Int.toNat_natCast
theorem kcr : type_of% @List.drop_zero := @List.drop_zero
theorem kcs : type_of% @List.take_length := @List.take_length
theorem kct : type_of% @bnd_none := @bnd_none
theorem kcu : type_of% @bnd_some := @bnd_some
theorem kcv : type_of% @bin_str_eql := @bin_str_eql
theorem kcw : type_of% @bin_str_neq := @bin_str_neq
theorem kcx : type_of% @ne_eq := @ne_eq
theorem kcy : type_of% @not_false_eq_true := @not_false_eq_true
theorem kcz : type_of% @List.map_cons := @List.map_cons
theorem kda : type_of% @List.map_nil := @List.map_nil
theorem kdb : type_of% @List.getElem?_cons_zero := @List.getElem?_cons_zero
theorem kdc : type_of% @List.getElem?_cons_succ := @List.getElem?_cons_succ
theorem kdd : type_of% @List.nil_append := @List.nil_append
theorem kde : type_of% @List.append_nil := @List.append_nil
theorem kdf : type_of% @List.cons_append := @List.cons_append
theorem kdg : type_of% @putO_some := @putO_some
theorem kdh : type_of% @putO_none := @putO_none
theorem kdi : type_of% @decide_true := @decide_true
theorem kdj : type_of% @decide_false := @decide_false
theorem kdk : type_of% @Bool.not_true := @Bool.not_true
theorem kdl : type_of% @Bool.not_false := @Bool.not_false
theorem kdm : type_of% @if_true := @if_true
theorem kdn : type_of% @if_false := @if_false
theorem kdo : type_of% @Bool.false_eq_true := @Bool.false_eq_true
theorem kdp : type_of% @beq_self_eq_true := @beq_self_eq_true
theorem kdq : type_of% @Int.natCast_nonneg := @Int.natCast_nonneg
theorem kdr : type_of% @not_true_eq_false := @not_true_eq_false
theorem kds : type_of% @or_self := @or_self
theorem kdt : type_of% @or_false := @or_false
theorem kdu : type_of% @false_or := @false_or
theorem kdv : type_of% @or_true := @or_true
theorem kdw : type_of% @true_or := @true_or
theorem kdx : type_of% @Option.map_some := @Option.map_some
theorem kdy : type_of% @Option.map_none := @Option.map_none
theorem kdz : type_of% @Bool.bne_true := @Bool.bne_true
theorem kea : type_of% @Bool.bne_false := @Bool.bne_false
theorem keb : type_of% @List.getD_cons_zero := @List.getD_cons_zero
theorem kec : type_of% @List.getD_cons_succ := @List.getD_cons_succ
theorem ked : type_of% @Nat.add_left_cancel_iff := @Nat.add_left_cancel_iff
theorem kee : type_of% @Nat.left_eq_add := @Nat.left_eq_add
theorem kef : type_of% @Nat.add_eq_left := @Nat.add_eq_left
theorem keg : type_of% @Bool.or_true := @Bool.or_true
theorem keh : type_of% @Bool.or_false := @Bool.or_false
theorem kei : type_of% @Bool.true_or := @Bool.true_or
theorem kej : type_of% @Bool.false_or := @Bool.false_or
theorem kek : type_of% @Nat.mul_one := @Nat.mul_one
theorem kel : type_of% @eq_self := @eq_self
theorem kem : type_of% @Int.toNat_zero := @Int.toNat_zero
theorem ken : type_of% @cof_int := @cof_int
theorem keo : type_of% @cof_bool := @cof_bool
theorem kep : type_of% @cof_string := @cof_string
theorem keq : type_of% @cof_ptr := @cof_ptr
theorem ker : type_of% @cof_sl := @cof_sl
theorem kes : type_of% @cof_func := @cof_func
theorem ket : type_of% @cof_nilFunc := @cof_nilFunc
theorem keu : type_of% @cof_nilIface := @cof_nilIface
theorem kev : type_of% @cof_iface := @cof_iface
theorem kew : type_of% @cof_agg := @cof_agg
theorem kex : type_of% @one_int := @one_int
theorem key : type_of% @one_bool := @one_bool
theorem kez : type_of% @one_string := @one_string
theorem kfa : type_of% @one_ptr := @one_ptr
theorem kfb : type_of% @one_sl := @one_sl
theorem kfc : type_of% @one_func := @one_func
theorem kfd : type_of% @one_nilFunc := @one_nilFunc
theorem kfe : type_of% @one_nilIface := @one_nilIface
theorem kff : type_of% @one_iface := @one_iface
theorem kfg : type_of% @fill_nil := @fill_nil
theorem kfh : type_of% @fill_cons := @fill_cons
theorem kfi : type_of% @setL_nil := @setL_nil
theorem kfj : type_of% @setL_cons := @setL_cons
theorem kfk : type_of% @toList_mk := @toList_mk
theorem kfl : type_of% @agg_list := @agg_list
theorem kfm : type_of% @List.drop_succ_cons := @List.drop_succ_cons
theorem kfn : type_of% @List.take_succ_cons := @List.take_succ_cons
theorem kfo : type_of% @List.take_zero := @List.take_zero
theorem kfp : type_of% @List.all_cons := @List.all_cons
theorem kfq : type_of% @List.all_nil := @List.all_nil
theorem kfr : type_of% @Bool.and_true := @Bool.and_true
theorem kfs : type_of% @Bool.true_and := @Bool.true_and
theorem kft : type_of% @and_self := @and_self
theorem kfu : type_of% @and_true := @and_true
theorem kfv : type_of% @true_and := @true_and
theorem kfw : type_of% @List.length_cons := @List.length_cons
theorem kfx : type_of% @List.length_nil := @List.length_nil
theorem kfy : type_of% @List.length_set := @List.length_set
theorem kfz : type_of% @Nat.le_refl := @Nat.le_refl
theorem kga : type_of% @List.set_cons_zero := @List.set_cons_zero
theorem kgb : type_of% @List.set_cons_succ := @List.set_cons_succ
theorem kgc : type_of% @Nat.zero_add := @Nat.zero_add
theorem kgd : type_of% @hget_baseSS := @hget_baseSS
theorem kge : type_of% @hget_baseSS0 := @hget_baseSS0
theorem kgf : type_of% @set_baseSS := @set_baseSS
theorem kgg : type_of% @set_baseSS0 := @set_baseSS0
theorem kgh : type_of% @hget_oldSS := @hget_oldSS
theorem kgi : type_of% @set_oldSS := @set_oldSS
theorem kgj : type_of% @hget_setS := @hget_setS
theorem kgk : type_of% @hget_oldS := @hget_oldS
theorem kgl : type_of% @hget_set' := @hget_set'
theorem kgm : type_of% @set_oldS := @set_oldS
theorem kgn : type_of% @hget_old := @hget_old
theorem kgo : type_of% @set_old := @set_old
theorem kgp : type_of% @bs_list := @bs_list
theorem kgq : type_of% @hget_baseS := @hget_baseS
theorem kgr : type_of% @hget_baseS0 := @hget_baseS0
theorem kgs : type_of% @set_baseS := @set_baseS
theorem kgt : type_of% @set_baseS0 := @set_baseS0
theorem kgu : type_of% @List.set_set := @List.set_set
theorem kgv : type_of% @List.append_assoc := @List.append_assoc
theorem kgw : type_of% @List.length_append := @List.length_append
theorem kgx : type_of% @hget_base := @hget_base
theorem kgy : type_of% @hget_base0 := @hget_base0
theorem kgz : type_of% @set_base := @set_base
theorem kha : type_of% @set_base0 := @set_base0
theorem khb : type_of% @hget_c0 := @hget_c0
theorem khc : type_of% @hget_cs := @hget_cs
theorem khd : type_of% @Nat.add_zero := @Nat.add_zero
theorem khe : type_of% @wr_yield := @wr_yield
theorem khf : type_of% @wc_range := @wc_range
theorem khg : type_of% @asK_norm := @asK_norm
theorem khh : type_of% @endK_norm := @endK_norm
theorem khi : type_of% @endK_ret := @endK_ret
theorem khj : type_of% @endK_exit := @endK_exit
theorem khk : type_of% @putL_nil := @putL_nil
theorem khl : type_of% @putL_cons := @putL_cons
theorem khm : type_of% @wops_chkN := @wops_chkN
theorem khn : type_of% @wops_chkC := @wops_chkC
theorem kho : type_of% @keepBs_nil := @keepBs_nil
theorem khp : type_of% @keepBs_cons := @keepBs_cons
theorem khq : type_of% @keepV_ptr := @keepV_ptr
theorem khr : type_of% @keepV_nil := @keepV_nil
end
section
theorem kB : ((((((((type_of% @kaa) ∧ ((type_of% @kab) ∧ (type_of% @kac))) ∧ ((type_of% @kad) ∧ ((type_of% @khm) ∧ (type_of% @khn)))) ∧ (((type_of% @kho) ∧ ((type_of% @khp) ∧ (type_of% @khq))) ∧ ((type_of% @khr) ∧ ((type_of% @kae) ∧ (type_of% @kaf))))) ∧ ((((type_of% @kag) ∧ ((type_of% @kah) ∧ (type_of% @kai))) ∧ ((type_of% @kaj) ∧ ((type_of% @kak) ∧ (type_of% @kal)))) ∧ (((type_of% @kam) ∧ ((type_of% @kan) ∧ (type_of% @kao))) ∧ ((type_of% @khe) ∧ ((type_of% @khf) ∧ (type_of% @khg)))))) ∧ (((((type_of% @khh) ∧ ((type_of% @khi) ∧ (type_of% @khj))) ∧ ((type_of% @khk) ∧ ((type_of% @khl) ∧ (type_of% @kap)))) ∧ (((type_of% @kaq) ∧ ((type_of% @kar) ∧ (type_of% @kas))) ∧ ((type_of% @kat) ∧ ((type_of% @kau) ∧ (type_of% @kav))))) ∧ ((((type_of% @kaw) ∧ ((type_of% @kax) ∧ (type_of% @kay))) ∧ ((type_of% @kaz) ∧ ((type_of% @kba) ∧ (type_of% @kbb)))) ∧ (((type_of% @kbc) ∧ ((type_of% @kbd) ∧ (type_of% @kbe))) ∧ (((type_of% @kbf) ∧ (type_of% @kbg)) ∧ ((type_of% @kbh) ∧ (type_of% @kbi))))))) ∧ ((((((type_of% @kbj) ∧ ((type_of% @kbk) ∧ (type_of% @kbl))) ∧ ((type_of% @kbm) ∧ ((type_of% @kbn) ∧ (type_of% @kbo)))) ∧ (((type_of% @kbp) ∧ ((type_of% @kbq) ∧ (type_of% @kbr))) ∧ ((type_of% @kbs) ∧ ((type_of% @kbt) ∧ (type_of% @kbu))))) ∧ ((((type_of% @kbv) ∧ ((type_of% @kbw) ∧ (type_of% @kbx))) ∧ ((type_of% @kby) ∧ ((type_of% @kbz) ∧ (type_of% @kca)))) ∧ (((type_of% @kcb) ∧ ((type_of% @kcc) ∧ (type_of% @kcd))) ∧ ((type_of% @kce) ∧ ((type_of% @kcf) ∧ (type_of% @kcg)))))) ∧ (((((type_of% @kch) ∧ ((type_of% @kci) ∧ (type_of% @kcj))) ∧ ((type_of% @kck) ∧ ((type_of% @kcl) ∧ (type_of% @kcm)))) ∧ (((type_of% @kcn) ∧ ((type_of% @kco) ∧ (type_of% @kcp))) ∧ ((type_of% @kcq) ∧ ((type_of% @kcr.{0}) ∧ (type_of% @kcs.{0}))))) ∧ ((((type_of% @kct) ∧ ((type_of% @kcu) ∧ (type_of% @kcv))) ∧ ((type_of% @kcw) ∧ ((type_of% @kcy) ∧ (type_of% @kcz.{0, 0})))) ∧ (((type_of% @kda.{0, 0}) ∧ ((type_of% @kdb.{0}) ∧ (type_of% @kdc.{0}))) ∧ (((type_of% @kdd.{0}) ∧ (type_of% @kde.{0})) ∧ ((type_of% @kdf.{0}) ∧ (type_of% @kdg)))))))) ∧ (((((((type_of% @kdh) ∧ ((type_of% @kdi) ∧ (type_of% @kdj))) ∧ ((type_of% @kdk) ∧ ((type_of% @kdl) ∧ (type_of% @kdo)))) ∧ (((type_of% @kdp.{0}) ∧ ((type_of% @kdq) ∧ (type_of% @kdr))) ∧ ((type_of% @kds) ∧ ((type_of% @kdt) ∧ (type_of% @kdu))))) ∧ ((((type_of% @kdv) ∧ ((type_of% @kdw) ∧ (type_of% @kdx.{0, 0}))) ∧ ((type_of% @kdy.{0, 0}) ∧ ((type_of% @kdz) ∧ (type_of% @kea)))) ∧ (((type_of% @keb.{0}) ∧ ((type_of% @kec.{0}) ∧ (type_of% @ked))) ∧ ((type_of% @kee) ∧ ((type_of% @kef) ∧ (type_of% @keg)))))) ∧ (((((type_of% @keh) ∧ ((type_of% @kei) ∧ (type_of% @kej))) ∧ ((type_of% @kek) ∧ ((type_of% @kem) ∧ (type_of% @ken)))) ∧ (((type_of% @keo) ∧ ((type_of% @kep) ∧ (type_of% @keq))) ∧ ((type_of% @ker) ∧ ((type_of% @kes) ∧ (type_of% @ket))))) ∧ ((((type_of% @keu) ∧ ((type_of% @kev) ∧ (type_of% @kew))) ∧ ((type_of% @kex) ∧ ((type_of% @key) ∧ (type_of% @kez)))) ∧ (((type_of% @kfa) ∧ ((type_of% @kfb) ∧ (type_of% @kfc))) ∧ (((type_of% @kfd) ∧ (type_of% @kfe)) ∧ ((type_of% @kff) ∧ (type_of% @kfg))))))) ∧ ((((((type_of% @kfh) ∧ ((type_of% @kfi) ∧ (type_of% @kfj))) ∧ ((type_of% @kfk) ∧ ((type_of% @kfl) ∧ (type_of% @kfm.{0})))) ∧ (((type_of% @kfn.{0}) ∧ ((type_of% @kfo.{0}) ∧ (type_of% @kfp.{0}))) ∧ ((type_of% @kfq.{0}) ∧ ((type_of% @kfr) ∧ (type_of% @kfs))))) ∧ ((((type_of% @kft) ∧ ((type_of% @kfu) ∧ (type_of% @kfv))) ∧ ((type_of% @kfw.{0}) ∧ ((type_of% @kfx.{0}) ∧ (type_of% @kfy.{0})))) ∧ (((type_of% @kfz) ∧ ((type_of% @kga.{0}) ∧ (type_of% @kgb.{0}))) ∧ ((type_of% @kgc) ∧ ((type_of% @kgd) ∧ (type_of% @kge)))))) ∧ (((((type_of% @kgf) ∧ ((type_of% @kgg) ∧ (type_of% @kgh))) ∧ ((type_of% @kgi) ∧ ((type_of% @kgj) ∧ (type_of% @kgk)))) ∧ (((type_of% @kgl) ∧ ((type_of% @kgm) ∧ (type_of% @kgn))) ∧ ((type_of% @kgo) ∧ ((type_of% @kgp) ∧ (type_of% @kgq))))) ∧ ((((type_of% @kgr) ∧ ((type_of% @kgs) ∧ (type_of% @kgt))) ∧ ((type_of% @kgu.{0}) ∧ ((type_of% @kgv.{0}) ∧ (type_of% @kgw.{0})))) ∧ (((type_of% @kgx) ∧ ((type_of% @kgy) ∧ (type_of% @kgz))) ∧ (((type_of% @kha) ∧ (type_of% @khb)) ∧ ((type_of% @khc) ∧ (type_of% @khd))))))))) :=
  ⟨⟨⟨⟨⟨⟨⟨@kaa, ⟨@kab, @kac⟩⟩, ⟨@kad, ⟨@khm, @khn⟩⟩⟩, ⟨⟨@kho, ⟨@khp, @khq⟩⟩, ⟨@khr, ⟨@kae, @kaf⟩⟩⟩⟩, ⟨⟨⟨@kag, ⟨@kah, @kai⟩⟩, ⟨@kaj, ⟨@kak, @kal⟩⟩⟩, ⟨⟨@kam, ⟨@kan, @kao⟩⟩, ⟨@khe, ⟨@khf, @khg⟩⟩⟩⟩⟩, ⟨⟨⟨⟨@khh, ⟨@khi, @khj⟩⟩, ⟨@khk, ⟨@khl, @kap⟩⟩⟩, ⟨⟨@kaq, ⟨@kar, @kas⟩⟩, ⟨@kat, ⟨@kau, @kav⟩⟩⟩⟩, ⟨⟨⟨@kaw, ⟨@kax, @kay⟩⟩, ⟨@kaz, ⟨@kba, @kbb⟩⟩⟩, ⟨⟨@kbc, ⟨@kbd, @kbe⟩⟩, ⟨⟨@kbf, @kbg⟩, ⟨@kbh, @kbi⟩⟩⟩⟩⟩⟩, ⟨⟨⟨⟨⟨@kbj, ⟨@kbk, @kbl⟩⟩, ⟨@kbm, ⟨@kbn, @kbo⟩⟩⟩, ⟨⟨@kbp, ⟨@kbq, @kbr⟩⟩, ⟨@kbs, ⟨@kbt, @kbu⟩⟩⟩⟩, ⟨⟨⟨@kbv, ⟨@kbw, @kbx⟩⟩, ⟨@kby, ⟨@kbz, @kca⟩⟩⟩, ⟨⟨@kcb, ⟨@kcc, @kcd⟩⟩, ⟨@kce, ⟨@kcf, @kcg⟩⟩⟩⟩⟩, ⟨⟨⟨⟨@kch, ⟨@kci, @kcj⟩⟩, ⟨@kck, ⟨@kcl, @kcm⟩⟩⟩, ⟨⟨@kcn, ⟨@kco, @kcp⟩⟩, ⟨@kcq, ⟨@kcr.{0}, @kcs.{0}⟩⟩⟩⟩, ⟨⟨⟨@kct, ⟨@kcu, @kcv⟩⟩, ⟨@kcw, ⟨@kcy, @kcz.{0, 0}⟩⟩⟩, ⟨⟨@kda.{0, 0}, ⟨@kdb.{0}, @kdc.{0}⟩⟩, ⟨⟨@kdd.{0}, @kde.{0}⟩, ⟨@kdf.{0}, @kdg⟩⟩⟩⟩⟩⟩⟩, ⟨⟨⟨⟨⟨⟨@kdh, ⟨@kdi, @kdj⟩⟩, ⟨@kdk, ⟨@kdl, @kdo⟩⟩⟩, ⟨⟨@kdp.{0}, ⟨@kdq, @kdr⟩⟩, ⟨@kds, ⟨@kdt, @kdu⟩⟩⟩⟩, ⟨⟨⟨@kdv, ⟨@kdw, @kdx.{0, 0}⟩⟩, ⟨@kdy.{0, 0}, ⟨@kdz, @kea⟩⟩⟩, ⟨⟨@keb.{0}, ⟨@kec.{0}, @ked⟩⟩, ⟨@kee, ⟨@kef, @keg⟩⟩⟩⟩⟩, ⟨⟨⟨⟨@keh, ⟨@kei, @kej⟩⟩, ⟨@kek, ⟨@kem, @ken⟩⟩⟩, ⟨⟨@keo, ⟨@kep, @keq⟩⟩, ⟨@ker, ⟨@kes, @ket⟩⟩⟩⟩, ⟨⟨⟨@keu, ⟨@kev, @kew⟩⟩, ⟨@kex, ⟨@key, @kez⟩⟩⟩, ⟨⟨@kfa, ⟨@kfb, @kfc⟩⟩, ⟨⟨@kfd, @kfe⟩, ⟨@kff, @kfg⟩⟩⟩⟩⟩⟩, ⟨⟨⟨⟨⟨@kfh, ⟨@kfi, @kfj⟩⟩, ⟨@kfk, ⟨@kfl, @kfm.{0}⟩⟩⟩, ⟨⟨@kfn.{0}, ⟨@kfo.{0}, @kfp.{0}⟩⟩, ⟨@kfq.{0}, ⟨@kfr, @kfs⟩⟩⟩⟩, ⟨⟨⟨@kft, ⟨@kfu, @kfv⟩⟩, ⟨@kfw.{0}, ⟨@kfx.{0}, @kfy.{0}⟩⟩⟩, ⟨⟨@kfz, ⟨@kga.{0}, @kgb.{0}⟩⟩, ⟨@kgc, ⟨@kgd, @kge⟩⟩⟩⟩⟩, ⟨⟨⟨⟨@kgf, ⟨@kgg, @kgh⟩⟩, ⟨@kgi, ⟨@kgj, @kgk⟩⟩⟩, ⟨⟨@kgl, ⟨@kgm, @kgn⟩⟩, ⟨@kgo, ⟨@kgp, @kgq⟩⟩⟩⟩, ⟨⟨⟨@kgr, ⟨@kgs, @kgt⟩⟩, ⟨@kgu.{0}, ⟨@kgv.{0}, @kgw.{0}⟩⟩⟩, ⟨⟨@kgx, ⟨@kgy, @kgz⟩⟩, ⟨⟨@kha, @khb⟩, ⟨@khc, @khd⟩⟩⟩⟩⟩⟩⟩⟩
end
section
open Go.RowKit
variable {T : Pg}
/-- All places of a value lie below n. -/
def Scoped (n : Nat) (v : Value) : Prop := ∃ ρ v', VR n ρ v v'
theorem VR.narrow {n n' : Nat} {ρ : Nat → Place} {v v' : Value} (h : VR n' ρ v v') (hs : Scoped n v) : VR n ρ v v' := by
 obtain ⟨ρ0, v0, h0⟩ := hs
 induction h generalizing v0 with
 | bool b => exact .bool b
 | int k x => exact .int k x
 | float k x => exact .float k x
 | string s => exact .string s
 | ptrNil => exact .ptrNil
 | ptr b o h => cases h0 with | ptr _ _ hb => exact .ptr b o hb
 | slNil => exact .slNil
 | sl b o l c c' h h1 h2 h3 => cases h0 with | sl _ _ _ _ _ hb _ _ _ => exact .sl b o l c c' hb h1 h2 h3
 | slE b o k a c' => exact .slE b o k a c'
 | mapNil => exact .mapNil
 | mapSome b h => cases h0 with | mapSome _ hb => exact .mapSome b hb
 | nilFunc => exact .nilFunc
 | nilIface => exact .nilIface
 | func fn f f' c c' hf hc h1 h2 i1 i2 =>
  cases h0 with
  | func _ _ g _ d hg hd k1 k2 =>
   exact .func fn f f' c c' hf hc (fun i a b => i1 i a b _ (k1 i a (by omega))) (fun i a b => i2 i a b _ (k2 i a (by omega)))
 | yield b h => cases h0 with | yield _ hb => exact .yield b hb
 | iface t v v' h ih => cases h0 with | iface _ _ v0 k => exact .iface t v v' (ih _ k)
 | agg c c' hc h ih => cases h0 with | agg _ d hd k => exact .agg c c' hc (fun i a b => ih i a b _ (k i a (by omega)))
 | tuple c c' hc h ih => cases h0 with | tuple _ d hd k => exact .tuple c c' hc (fun i a b => ih i a b _ (k i a (by omega)))
theorem Scoped.closed {n : Nat} {v : Value} (h : closedV v = true) : Scoped n v := ⟨fun _ => ⟨0, 0, 0⟩, v, .of_closed h⟩
theorem Scoped.int {n : Nat} {k : IntKind} {x : Int} : Scoped n (.int k x) := .closed rfl
theorem Scoped.bool {n : Nat} {b : Bool} : Scoped n (.bool b) := .closed rfl
theorem Scoped.string {n : Nat} {s : ByteArray} : Scoped n (.string s) := .closed rfl
theorem Scoped.ptrNil {n : Nat} : Scoped n (.pointer none) := .closed rfl
theorem Scoped.slNil {n : Nat} : Scoped n (.slice none 0 0) := .closed rfl
theorem Scoped.ptr {n b o : Nat} (h : b < n) : Scoped n (.pointer (some ⟨b, o, none⟩)) := ⟨fun b => ⟨b, 0, 0⟩, _, .ptr b o h⟩
theorem Scoped.sl {n b o l c : Nat} (h : b < n) (hl : l ≤ c) : Scoped n (.slice (some ⟨b, o, none⟩) l c) := ⟨fun b => ⟨b, 0, 0⟩, _, .sl b o l c c h hl (Nat.le_refl _) (by simp)⟩
theorem Scoped.undef {n : Nat} : Scoped n Go.undef := ⟨fun _ => ⟨0, 0, 0⟩, _, .undef⟩
theorem Scoped.mono {n m : Nat} {v : Value} (h : Scoped n v) (hm : n ≤ m) : Scoped m v := by
 obtain ⟨ρ, v', h⟩ := h
 exact ⟨ρ, v', h.mono hm fun _ _ => rfl⟩
theorem VR.with_place {n : Nat} {ρ : Nat → Place} {v v' : Value} (h : VR n ρ v v') (ρ' : Nat → Place) : ∃ v'', VR n ρ' v v'' := by
 induction h with
 | bool b => exact ⟨_, .bool b⟩
 | int k x => exact ⟨_, .int k x⟩
 | float k x => exact ⟨_, .float k x⟩
 | string s => exact ⟨_, .string s⟩
 | ptrNil => exact ⟨_, .ptrNil⟩
 | ptr b o h => exact ⟨_, .ptr b o h⟩
 | slNil => exact ⟨_, .slNil⟩
 | sl b o l c c' h h1 h2 h3 => exact ⟨_, .sl b o l c c h h1 (Nat.le_refl _) (by omega)⟩
 | slE b o k a c' => exact ⟨_, .slE b o k a c'⟩
 | mapNil => exact ⟨_, .mapNil⟩
 | mapSome b h => exact ⟨_, .mapSome b h⟩
 | nilFunc => exact ⟨_, .nilFunc⟩
 | nilIface => exact ⟨_, .nilIface⟩
 | func fn f f' c c' hf hc h1 h2 i1 i2 =>
  refine ⟨_, .func fn f (Array.ofFn fun i : Fin f.size => (i1 i i.2 (by omega)).choose) c (Array.ofFn fun i : Fin c.size => (i2 i i.2 (by omega)).choose) (by simp) (by simp) (fun i a b => ?_) (fun i a b => ?_)⟩
  ·rw [Array.getElem_ofFn]; exact (i1 i a (by omega)).choose_spec
  ·rw [Array.getElem_ofFn]; exact (i2 i a (by omega)).choose_spec
 | yield b h => exact ⟨_, .yield b h⟩
 | iface t v v' h ih => exact ⟨_, .iface t v _ ih.choose_spec⟩
 | agg c c' hc h ih =>
  refine ⟨_, .agg c (Array.ofFn fun i : Fin c.size => (ih i i.2 (by omega)).choose) (by simp) (fun i a b => ?_)⟩
  rw [Array.getElem_ofFn]; exact (ih i a (by omega)).choose_spec
 | tuple c c' hc h ih =>
  refine ⟨_, .tuple c (Array.ofFn fun i : Fin c.size => (ih i i.2 (by omega)).choose) (by simp) (fun i a b => ?_)⟩
  rw [Array.getElem_ofFn]; exact (ih i a (by omega)).choose_spec
theorem scoped_list {n : Nat} (ρ : Nat → Place) : ∀ l : List Value, (∀ v ∈ l, Scoped n v) → ∃ m, VL n ρ l m
 | [], _ => ⟨[], VL.nil⟩
 | v :: l, h => by
  obtain ⟨m, hm⟩ := scoped_list ρ l fun u hu => h u (by simp [hu])
  obtain ⟨ρ0, v0, h0⟩ := h v (by simp)
  obtain ⟨v1, h1⟩ := h0.with_place ρ
  exact ⟨v1 :: m, VL.cons h1 hm⟩
theorem Scoped.agg {n : Nat} {l : List Value} (h : ∀ v ∈ l, Scoped n v) : Scoped n (.agg l.toArray) := by
 obtain ⟨m, hm⟩ := scoped_list (fun _ => ⟨0, 0, 0⟩) l h
 exact ⟨_, _, hm.agg⟩
theorem Scoped.tuple {n : Nat} {l : List Value} (h : ∀ v ∈ l, Scoped n v) : Scoped n (.tuple l.toArray) := by
 obtain ⟨m, hm⟩ := scoped_list (fun _ => ⟨0, 0, 0⟩) l h
 exact ⟨_, _, hm.tuple⟩
theorem Scoped.tup2 {n : Nat} {a b : Value} (ha : Scoped n a) (hb : Scoped n b) : Scoped n (.tuple #[a, b]) := .tuple (l := [a, b]) (by intro u hu; simp at hu; rcases hu with rfl | rfl <;> assumption)
theorem Scoped.yield {n b : Nat} (h : b < n) : Scoped n (.func (.yield b) #[] #[]) := ⟨fun b => ⟨b, 0, 0⟩, _, .yield b h⟩
theorem Scoped.func {n : Nat} {fn : FuncId} {f c : List Value} (h1 : ∀ v ∈ f, Scoped n v) (h2 : ∀ v ∈ c, Scoped n v) : Scoped n (.func (.func fn) f.toArray c.toArray) := by
 obtain ⟨m, hm⟩ := scoped_list (fun _ => ⟨0, 0, 0⟩) f h1
 obtain ⟨k, hk⟩ := scoped_list (fun _ => ⟨0, 0, 0⟩) c h2
 refine ⟨fun _ => ⟨0, 0, 0⟩, .func (.func fn) m.toArray k.toArray, .func fn _ _ _ _ (by simpa using hm.1) (by simpa using hk.1) (fun i a b => hm.2 i _ _ (by simp [List.getElem?_eq_getElem (show i < f.length by simpa using a)]) (by simp [List.getElem?_eq_getElem (show i < m.length by simpa using b)])) (fun i a b => hk.2 i _ _ (by simp [List.getElem?_eq_getElem (show i < c.length by simpa using a)]) (by simp [List.getElem?_eq_getElem (show i < k.length by simpa using b)]))⟩
/-! ### A call's end, told otherwise -/
theorem WD.abs {f : FuncId} {args : List Value} {H : Heap} {R : FRes → Heap → Prop}
  (h : WD T f args H (fun r H1 => ∃ r2 H2, (∀ ρ w en w1, Rel T.G ρ H w → RetOK T.G ρ H w r H1 en w1 → RetOK T.G ρ H w r2 H2 en w1) ∧ R r2 H2)) : WD T f args H R := by
 intro ρ w args' hr ha
 rcases h ρ w args' hr ha with ⟨v', h1, r, H1, ⟨r2, H2, h2, h3⟩, h4⟩ | ⟨h1, h2⟩
 ·exact .inl ⟨v', h1, r2, H2, h3, h2 _ _ _ _ hr h4⟩
 ·exact .inr ⟨h1, h2.mono fun en w' ⟨r, H1, ⟨r2, H2, h3, h4⟩, h5⟩ => ⟨r2, H2, h4, h3 _ _ _ _ hr h5⟩⟩
/-- Blocks are kept: those below n, and behind them those with such numbers. -/
def sg (n : Nat) (ks : List Nat) : Nat → Nat := fun b => if b < n then b else n + ks.getD (b - n) 0
/-- A value with the kept blocks' numbers, and as it was. -/
def VS (n : Nat) (ks : List Nat) (v2 v1 : Value) : Prop := ∀ n' ρ v', n ≤ n' → VR n' ρ v1 v' → VR (n + ks.length) (fun b => ρ (sg n ks b)) v2 v'
theorem sg_lt {n b : Nat} {ks : List Nat} (h : b < n) : sg n ks b = b := if_pos h
theorem sg_ge {n i k : Nat} {ks : List Nat} (h : ks[i]? = some k) : sg n ks (n + i) = n + k := by
 unfold sg
 rw [if_neg (by omega), Nat.add_sub_cancel_left, List.getD_eq_getElem?_getD, h]
 rfl
theorem VS.old {n : Nat} {ks : List Nat} {v : Value} (h : Scoped n v) : VS n ks v v := fun n' ρ v' _ hv => (hv.narrow h).mono (by omega) fun b hb => by rw [sg_lt hb]
theorem VS.ptr {n : Nat} {ks : List Nat} {i k o : Nat} (h : ks[i]? = some k) : VS n ks (.pointer (some ⟨n + i, o, none⟩)) (.pointer (some ⟨n + k, o, none⟩)) := by
 intro n' ρ v' _ hv
 cases hv with
 | ptr _ _ hb =>
  rw [← sg_ge h]
  exact .ptr (ρ := fun b => ρ (sg n ks b)) (n + i) o (by have := (List.getElem?_eq_some_iff.1 h).1; omega)
theorem VS.sl {n : Nat} {ks : List Nat} {i k o l c : Nat} (h : ks[i]? = some k) : VS n ks (.slice (some ⟨n + i, o, none⟩) l c) (.slice (some ⟨n + k, o, none⟩) l c) := by
 intro n' ρ v' _ hv
 cases hv with
 | sl _ _ _ _ c' hb h0 h1 h2 =>
  rw [← sg_ge h] at h2 ⊢
  exact .sl (ρ := fun b => ρ (sg n ks b)) (n + i) o l c c' (by have := (List.getElem?_eq_some_iff.1 h).1; omega) h0 h1 h2
theorem VS.arrays {n : Nat} {ks : List Nat} {l2 l1 : List Value} (hl : l2.length = l1.length) (h : ∀ (i : Nat) (x y : Value), l2[i]? = some x → l1[i]? = some y → VS n ks x y) {n' : Nat} {ρ : Nat → Place} (hn : n ≤ n') {m : List Value} (hm : VL n' ρ l1 m) :
  VL (n + ks.length) (fun b => ρ (sg n ks b)) l2 m := by
 refine ⟨hl.trans hm.1, fun i x y hx hy => ?_⟩
 have h1 : i < l1.length := by rw [← hl]; exact (List.getElem?_eq_some_iff.1 hx).1
 exact h i x l1[i] hx (by simp [h1]) n' ρ y hn (hm.2 i _ y (by simp [h1]) hy)
theorem VS.agg {n : Nat} {ks : List Nat} {l2 l1 : List Value} (hl : l2.length = l1.length) (h : ∀ (i : Nat) (x y : Value), l2[i]? = some x → l1[i]? = some y → VS n ks x y) : VS n ks (.agg l2.toArray) (.agg l1.toArray) := by
 intro n' ρ v' hn hv
 cases hv with
 | agg _ c' hc hh => exact (VS.arrays hl h hn (m := c'.toList) (VL.of_arrays hc hh)).agg
theorem VS.tuple {n : Nat} {ks : List Nat} {l2 l1 : List Value} (hl : l2.length = l1.length) (h : ∀ (i : Nat) (x y : Value), l2[i]? = some x → l1[i]? = some y → VS n ks x y) : VS n ks (.tuple l2.toArray) (.tuple l1.toArray) := by
 intro n' ρ v' hn hv
 cases hv with
 | tuple _ c' hc hh => exact (VS.arrays hl h hn (m := c'.toList) (VL.of_arrays hc hh)).tuple
/-- Blocks told otherwise. -/
def OS (n : Nat) (ks : List Nat) : AObj → AObj → Prop
 | .row c2 u wr, .row c1 u' wr' => u = u' ∧ wr = wr' ∧ c2.length = c1.length ∧ ∀ (i : Nat) (x y : Value), c2[i]? = some x → c1[i]? = some y → VS n ks x y
 | .iter s p, .iter s' p' => s = s' ∧ p = p'
 | .loop P G st pe e2 ps cz bd, .loop P' G' st' pe' e1 ps' cz' bd' => P = P' ∧ G = G' ∧ st = st' ∧ pe = pe' ∧ ps = ps' ∧ cz = cz' ∧ bd = bd' ∧ ∀ i, (get e1 i = undef → get e2 i = undef) ∧ VS n ks (get e2 i) (get e1 i)
 | .map e2, .map e1 => e2.length = e1.length ∧ ∀ (i : Nat) (x y : Value × Value), e2[i]? = some x → e1[i]? = some y → VS n ks x.1 y.1 ∧ VS n ks x.2 y.2
 | .dead, _ => True
 | _, _ => False
def RS (n : Nat) (ks : List Nat) : FRes → FRes → Prop
 | .ret v2, .ret v1 => VS n ks v2 v1
 | .pan v2, .pan v1 => VS n ks v2 v1
 | _, _ => False
theorem OS.same {n : Nat} {ks : List Nat} {c : List Value} {u : Nat} {wr : Bool} (h : ∀ v ∈ c, Scoped n v) : OS n ks (.row c u wr) (.row c u wr) :=
 ⟨rfl, rfl, rfl, fun i x y hx hy => by rw [hx] at hy; cases hy; exact .old (h _ (List.mem_of_getElem? hx))⟩
theorem os_or {n n' : Nat} {ks : List Nat} {ρ : Nat → Place} {w : World} {b j : Nat} {o2 o1 : AObj} (hn : n ≤ n') (h : OS n ks o2 o1) (ho : OR n' ρ w b o1) (hj : sg n ks j = b) : OR (n + ks.length) (fun b => ρ (sg n ks b)) w j o2 := by
 cases o2 with
 | row c2 u wr =>
  cases o1 with
  | row c1 u1 wr1 =>
   obtain ⟨rfl, rfl, hl, hv⟩ := h
   obtain ⟨cells, t, fr, h1, h2, h3⟩ := ho
   subst hj
   refine ⟨cells, t, fr, h1, fun i v hi => ?_, fun hw => ?_⟩
   ·have hi1 : i < c1.length := by rw [← hl]; exact (List.getElem?_eq_some_iff.1 hi).1
    obtain ⟨v', hv', hr⟩ := h2 i c1[i] (by simp [hi1])
    exact ⟨v', hv', hv i v c1[i] hi (by simp [hi1]) n' ρ v' hn hr⟩
   ·rw [hl]; exact h3 hw
  | iter s p => exact h.elim
  | loop _ _ _ _ _ _ _ _ => exact h.elim
  | map _ => exact h.elim
  | dead => exact h.elim
 | iter s p =>
  cases o1 with
  | row c1 u1 wr1 => exact h.elim
  | iter s1 p1 => obtain ⟨rfl, rfl⟩ := h; subst hj; exact ho
  | loop _ _ _ _ _ _ _ _ => exact h.elim
  | map _ => exact h.elim
  | dead => exact h.elim
 | loop P G st pe e2 ps cz bd =>
  cases o1 with
  | row c1 u1 wr1 => exact h.elim
  | iter s1 p1 => exact h.elim
  | loop P' G' st' pe' e1 ps' cz' bd' =>
   obtain ⟨rfl, rfl, rfl, rfl, rfl, rfl, rfl, hv⟩ := h
   subst hj
   obtain ⟨h0, N, fn, ca, cb, tmps, D, h1, h2, h3, h4, h5⟩ := ho
   exact ⟨h0, N, fn, ca, cb, tmps, D, h1, h2, h3, h4, h5.1, fun i hi => (hv i).2 n' ρ _ hn (h5.2 i hi), fun i hi => (hv i).1 (h5.3 i hi)⟩
  | map _ => exact h.elim
  | dead => exact h.elim
 | map e2 =>
  cases o1 with
  | row c1 u1 wr1 => exact h.elim
  | iter s1 p1 => exact h.elim
  | loop _ _ _ _ _ _ _ _ => exact h.elim
  | map e1 =>
   obtain ⟨hl, hv⟩ := h
   subst hj
   obtain ⟨ms, clock, h1, h2, h3⟩ := ho
   have get : ∀ (f : Value × Value → Value) (i : Nat) (x : Value), (e2.map f)[i]? = some x → ∃ p q, e2[i]? = some p ∧ e1[i]? = some q ∧ f p = x := fun f i x hx => by
    rw [List.getElem?_map] at hx
    obtain ⟨p, hp, rfl⟩ := Option.map_eq_some_iff.1 hx
    have hi : i < e1.length := by rw [← hl]; exact (List.getElem?_eq_some_iff.1 hp).1
    exact ⟨p, e1[i], hp, by simp [hi], rfl⟩
   refine ⟨ms, clock, h1, ⟨by rw [← h2.1]; simp [hl], fun i x y hx hy => ?_⟩, ⟨by rw [← h3.1]; simp [hl], fun i x y hx hy => ?_⟩⟩
   ·obtain ⟨p, q, hp, hq, rfl⟩ := get _ i x hx
    exact (hv i p q hp hq).1 n' ρ y hn (h2.2 i q.1 y (by simp [hq]) hy)
   ·obtain ⟨p, q, hp, hq, rfl⟩ := get _ i x hx
    exact (hv i p q hp hq).2 n' ρ y hn (h3.2 i q.2 y (by simp [hq]) hy)
  | dead => exact h.elim
 | dead => trivial
theorem os_live {n : Nat} {ks : List Nat} {o2 o1 : AObj} (h : OS n ks o2 o1) (hl : o2.live = true) : o1.live = true := by
 cases o2 <;> cases o1 <;> first | rfl | exact h.elim | cases hl
theorem os_wrt {n : Nat} {ks : List Nat} {o2 o1 : AObj} (h : OS n ks o2 o1) (hl : o2.wrt = true) : o1.wrt = true := by
 cases o2 <;> cases o1 <;> first | rfl | exact h.elim | (cases hl; done) | (obtain ⟨_, rfl, _⟩ := h; exact hl)
theorem WD.gc {f : FuncId} {args : List Value} {H : Heap} {R : FRes → Heap → Prop}
  (h : WD T f args H (fun r H1 => ∃ (K g g2 : Heap) (ks : List Nat) (r2 : FRes), H1 = K ++ g ∧ K.length = H.length ∧
   (∀ (b : Nat) (o : AObj), K[b]? = some o → H[b]? = some o ∨ OS H.length ks o o) ∧ ks.length = g2.length ∧ ks.Nodup ∧
   (∀ (i k : Nat) (o2 : AObj), ks[i]? = some k → g2[i]? = some o2 → ∃ o1, g[k]? = some o1 ∧ OS H.length ks o2 o1) ∧ RS H.length ks r2 r ∧ R r2 (K ++ g2))) : WD T f args H R := by
 refine WD.abs (h.mono fun r H1 ⟨K, g, g2, ks, r2, hH1, hK, hold, hks, hnd, hnew, hres, hR⟩ => ⟨r2, K ++ g2, fun ρ w en w1 hr hret => ?_, hR⟩)
 subst hH1
 obtain ⟨ρ1, hs, hres1⟩ := hret
 have hlen1 : H.length ≤ (K ++ g).length := hs.len
 have hlen2 : (K ++ g2).length = H.length + ks.length := by simp [hK, hks]
 have hsco : ∀ (b : Nat) (o : AObj), H[b]? = some o → OS H.length ks o o := by
  intro b o ho
  cases o with
  | row cs u wr =>
   refine OS.same fun v hv => ?_
   obtain ⟨cells, t, fr, _, h2, _⟩ := hr.obj b _ ho
   obtain ⟨i, hi, rfl⟩ := List.getElem_of_mem hv
   obtain ⟨v', _, hvr⟩ := h2 i cs[i] (by simp [hi])
   exact ⟨ρ, v', hvr⟩
  | iter s p => exact ⟨rfl, rfl⟩
  | loop P G st pe env ps cz bd =>
   refine ⟨rfl, rfl, rfl, rfl, rfl, rfl, rfl, fun i => ⟨id, .old ?_⟩⟩
   obtain ⟨_, N, _, _, _, tmps, _, _, _, _, _, h5⟩ := hr.obj b _ ho
   by_cases hi : i < N
   ·exact ⟨ρ, _, h5.2 i hi⟩
   ·rw [h5.3 i (by omega)]; exact .undef
  | map es =>
   refine ⟨rfl, fun i x y hx hy => ?_⟩
   rw [hx] at hy
   cases hy
   obtain ⟨ms, _, _, h2, h3⟩ := hr.obj b _ ho
   obtain ⟨k, _, hk⟩ := h2.get (i := i) (x := x.1) (by simp [hx])
   obtain ⟨v, _, hv⟩ := h3.get (i := i) (x := x.2) (by simp [hx])
   exact ⟨.old ⟨ρ, k, hk⟩, .old ⟨ρ, v, hv⟩⟩
  | dead => trivial
 have each : ∀ (j : Nat) (o2 : AObj), (K ++ g2)[j]? = some o2 → ∃ o1, (K ++ g)[sg H.length ks j]? = some o1 ∧ OS H.length ks o2 o1 := by
  intro j o2 hj
  by_cases hlt : j < H.length
  ·rw [List.getElem?_append_left (by omega)] at hj
   refine ⟨o2, by rw [sg_lt hlt, List.getElem?_append_left (by omega)]; exact hj, ?_⟩
   rcases hold j o2 hj with h1 | h1
   ·exact hsco j o2 h1
   ·exact h1
  ·rw [List.getElem?_append_right (by omega), hK] at hj
   have hi : j - H.length < ks.length := by rw [hks]; exact (List.getElem?_eq_some_iff.1 hj).1
   obtain ⟨o1, h1, h2⟩ := hnew (j - H.length) ks[j - H.length] o2 (by simp [hi]) hj
   refine ⟨o1, ?_, h2⟩
   have e : sg H.length ks j = H.length + ks[j - H.length] := by
    have := sg_ge (n := H.length) (ks := ks) (i := j - H.length) (k := ks[j - H.length]) (by simp [hi])
    rw [show H.length + (j - H.length) = j by omega] at this
    exact this
   rw [e, List.getElem?_append_right (by omega), hK, Nat.add_sub_cancel_left]
   exact h1
 have inj : ∀ j k, j < H.length + ks.length → k < H.length + ks.length → sg H.length ks j = sg H.length ks k → j = k := by
  intro j k hj hk he
  by_cases h1 : j < H.length <;> by_cases h2 : k < H.length
  ·rw [sg_lt h1, sg_lt h2] at he; exact he
  ·rw [sg_lt h1] at he
   simp only [sg, if_neg h2] at he
   omega
  ·rw [sg_lt h2] at he
   simp only [sg, if_neg h1] at he
   omega
  ·simp only [sg, if_neg h1, if_neg h2] at he
   have e1 : ks.getD (j - H.length) 0 = ks[j - H.length]'(by omega) := by rw [List.getD_eq_getElem?_getD, List.getElem?_eq_getElem (by omega)]; rfl
   have e2 : ks.getD (k - H.length) 0 = ks[k - H.length]'(by omega) := by rw [List.getD_eq_getElem?_getD, List.getElem?_eq_getElem (by omega)]; rfl
   rw [e1, e2] at he
   have hjk : j - H.length = k - H.length := by
    rcases Nat.lt_trichotomy (j - H.length) (k - H.length) with h3 | h3 | h3
    ·exact absurd (by omega) (List.pairwise_iff_getElem.1 hnd (j - H.length) (k - H.length) (by omega) (by omega) h3)
    ·exact h3
    ·exact absurd (by omega) (List.pairwise_iff_getElem.1 hnd (k - H.length) (j - H.length) (by omega) (by omega) h3)
   omega
 have hstep : Step T.G ρ H w (fun b => ρ1 (sg H.length ks b)) (K ++ g2) w1 := by
  refine ⟨⟨fun b o ho => ?_, fun b c o u hb hc hne hw hl => ?_, fun gl hg => ?_, by rw [hlen2]; have := hr.many; omega⟩, by rw [hlen2]; omega, fun b hb => ?_, hs.os, hs.tape, hs.output, hs.size, hs.frame, fun c hc => ?_, hs.loops, fun c u hu hl => ?_⟩
  ·obtain ⟨o1, h1, h2⟩ := each b o ho
   rw [hlen2]
   exact os_or hlen1 h2 (hs.rel.obj _ _ h1) rfl
  ·obtain ⟨o1, h1, h2⟩ := each b o hb
   obtain ⟨u1, h3, h4⟩ := each c u hc
   refine hs.rel.inj _ _ _ _ h1 h3 (fun e => hne (inj b c ?_ ?_ e)) (os_wrt h2 hw) (os_live h4 hl)
   ·rw [← hlen2]; exact (List.getElem?_eq_some_iff.1 hb).1
   ·rw [← hlen2]; exact (List.getElem?_eq_some_iff.1 hc).1
  ·show ρ1 (sg H.length ks gl) = _
   rw [sg_lt (Nat.lt_of_lt_of_le hg hr.many)]
   exact hs.rel.glob gl hg
  ·show ρ1 (sg H.length ks b) = _
   rw [sg_lt hb]
   exact hs.same b hb
  ·obtain ⟨b, o, hb, hw, rfl⟩ := hc
   obtain ⟨o1, h1, h2⟩ := each b o hb
   exact hs.fresh _ ⟨_, o1, h1, os_wrt h2 hw, rfl⟩
  ·obtain ⟨o1, h1, h2⟩ := each c u hu
   rcases hs.lives _ o1 h1 (os_live h2 hl) with ⟨o, ho, hol⟩ | h | h
   ·left
    by_cases hc : c < H.length
    ·rw [sg_lt hc] at ho; exact ⟨o, ho, hol⟩
    ·have := (List.getElem?_eq_some_iff.1 ho).1
     simp only [sg, if_neg hc] at this
     omega
   ·exact .inr (.inl h)
   ·exact .inr (.inr h)
 refine ⟨_, hstep, ?_⟩
 rw [hlen2]
 cases r2 with
 | ret v2 =>
  cases r with
  | ret v1 =>
   obtain ⟨v', rfl, hv⟩ := hres1
   exact ⟨v', rfl, hres _ _ _ hlen1 hv⟩
  | pan v1 => exact hres.elim
 | pan v2 =>
  cases r with
  | ret v1 => exact hres.elim
  | pan v1 =>
   obtain ⟨v', rfl, hv⟩ := hres1
   exact ⟨v', rfl, hres _ _ _ hlen1 hv⟩
/-- A call that leaves all as it was. -/
theorem WD.gc0 {f : FuncId} {args : List Value} {H : Heap} {R : FRes → Heap → Prop}
  (h : WD T f args H (fun r H1 => ∃ v, r = .ret v ∧ (∃ g, H1 = H ++ g) ∧ Scoped H.length v ∧ R (.ret v) H)) : WD T f args H R := by
 refine WD.gc (h.mono fun r H1 ⟨v, h1, ⟨g, h2⟩, h3, h4⟩ => ⟨H, g, [], [], .ret v, h2, rfl, fun b o ho => .inl ho, rfl, List.nodup_nil, fun i k o2 hk => by simp at hk, ?_, by simpa using h4⟩)
 subst h1
 exact VS.old h3
/-- A law's answer, over blocks that nothing may write: all that stood is as it was. -/
theorem wd_true {f : FuncId} {n : Nat} {body : ACode} {rs : List AResult} (hT : Laid T f (.code n body rs)) {args : List Value} {H : Heap} {b : Bool} (h : WD T f args H (fun r _ => r = .ret (.bool b))) {ρ : Nat → Place} {w : World} {args' : Array Value}
  (hr : Rel T.G ρ H w) (ha : VL H.length ρ args args'.toList) (hro : ∀ o ∈ H, o.wrt = false) : Calls T.P f args' w fun e w' => e = .returned (.bool b) ∧ Below w.heap.size w w' := by
 have henter : (callFunc f args').run T.P w = .ok (.enter f args') w := by
  obtain ⟨_, _, hc, _⟩ := prepFn_inv hT
  exact hc.enter _ _
 rcases h ρ w args' hr ha with ⟨v', h1, _⟩ | ⟨_, h2⟩
 ·rw [henter] at h1
  cases h1
 ·refine h2.mono fun e w' ⟨r, H1, hq, hret⟩ => ?_
  subst hq
  obtain ⟨ρ', hs, v', rfl, hv⟩ := hret
  refine ⟨by rw [hv.inv_bool], hs.os, hs.tape, hs.output, hs.size, fun c hc => hs.frame c hc ?_⟩
  rintro ⟨b, o, hb, ho, _⟩
  have := hro o (List.mem_of_getElem? hb)
  rw [ho] at this
  cases this
/-! ### A call over some blocks -/
end
section
variable {P : Program}
end
end Go.Proofs.Ytpllhhaeclnngaa.Ev
