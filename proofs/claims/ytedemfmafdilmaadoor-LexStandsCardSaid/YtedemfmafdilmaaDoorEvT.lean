/- A region that draws its order does as the evaluator's list. Conditions: none. -/
import Derived.Test.YtedemfmafdilmaaDoorEvS
namespace Go.Proofs.YtedemfmafdilmaaDoor.Ev

variable {P : Program} {N G : Nat} {ρ : Nat → Place} {ops : Array Oper}

theorem chkOf_ok {bef : Array Nat} {listed : Array Bool} {i : Nat} : ∀ (l : List Nat) (c : List (Nat × Nat)), chkOf P ops bef listed i l = some c →
    (∀ j ∈ l, j ≠ i → listed.getD j true = false → (bef.getD j 0).testBit i = false → ∀ o, ops[j]? = some o → stillOp P o.op = true ∨ ∃ t ta xv m, o.op = .store t (.tmp ta) xv ∧ szOf P t = some m ∧ (ta, m) ∈ c) ∧
    ∀ q ∈ c, unwritten ops listed q.1 = true := by
  intro l
  induction l with
  | nil => intro c h; simp only [chkOf] at h; cases h; exact ⟨fun j hj => (by cases hj), fun q hq => (by cases hq)⟩
  | cons j l ih =>
    intro c h
    simp only [chkOf] at h
    split at h
    · cases h
    · rename_i m hm
      obtain ⟨h1, h2⟩ := ih m hm
      split at h
      · rename_i hcond
        cases h
        refine ⟨fun k hk hki hun hb o ho => ?_, h2⟩
        rcases List.mem_cons.1 hk with rfl | hk
        · simp only [Bool.or_eq_true, beq_iff_eq] at hcond
          rcases hcond with (hcond | hcond) | hcond
          · exact absurd hcond hki
          · rw [hun] at hcond; cases hcond
          · rw [hb] at hcond; cases hcond
        · exact h1 k hk hki hun hb o ho
      · split at h
        · rename_i hn
          cases h
          refine ⟨fun k hk hki hun hb o ho => ?_, h2⟩
          rcases List.mem_cons.1 hk with rfl | hk
          · rw [hn] at ho; cases ho
          · exact h1 k hk hki hun hb o ho
        · rename_i o hoj
          split at h
          · rename_i hst
            cases h
            refine ⟨fun k hk hki hun hb o' ho => ?_, h2⟩
            rcases List.mem_cons.1 hk with rfl | hk
            · rw [hoj] at ho; cases ho; exact .inl hst
            · exact h1 k hk hki hun hb o' ho
          · split at h
            · rename_i t a xv hop
              split at h
              · rename_i hunw
                obtain ⟨n, hn, rfl⟩ := Option.map_eq_some_iff.1 h
                refine ⟨fun k hk hki hun hb o' ho => ?_, fun q hq => ?_⟩
                · rcases List.mem_cons.1 hk with rfl | hk
                  · rw [hoj] at ho; cases ho
                    exact .inr ⟨t, a, xv, n, hop, hn, by simp⟩
                  · rcases h1 k hk hki hun hb o' ho with h3 | ⟨t, ta, xv, m', h3, h4, h5⟩
                    · exact .inl h3
                    · exact .inr ⟨t, ta, xv, m', h3, h4, by simp [h5]⟩
                · rcases List.mem_cons.1 hq with rfl | hq
                  · exact hunw
                  · exact h2 q hq
              · cases h
            · cases h

theorem apartOK_mem {e : Env} {H : Heap} {op : AOp} {b o m : Nat} {x : Operand} (hop : op = .load1 x ∧ m = 1 ∨ op = .loadN m x) (hx : aev e x = .pointer (some ⟨b, o, none⟩)) :
    ∀ (l : List (Nat × Nat)), apartOK e H op l = true → ∀ q ∈ l, apart2 H (.pointer (some ⟨b, o, none⟩)) m (get e q.1) q.2 = true := by
  intro l
  induction l with
  | nil => intro _ q hq; cases hq
  | cons p l ih =>
    intro h q hq
    obtain ⟨t, k⟩ := p
    simp only [apartOK, Bool.and_eq_true] at h
    rcases List.mem_cons.1 hq with rfl | hq
    · have := h.1
      rcases hop with ⟨rfl, rfl⟩ | rfl
      · dsimp only at this; rw [hx] at this; exact this
      · dsimp only at this; rw [hx] at this; exact this
    · exact ih h.2 q hq

/-- A load is passed by an operation that leaves its cells alone. -/
theorem load_pass {Q : Exit → Act → World → Prop} {oi : Oper} {v : Value} {p : Addr} {m : Nat} {chk : List (Nat × Nat)} {a0 : Act} {w0 : World}
    (hQ : ∀ c a a' w, Q (.panic c) a w → a'.defers = a.defers → Q (.panic c) a' w) (hout : ¬ LetsOut Q)
    (hsi : ∀ cs b, oi.op ≠ .select cs b)
    {j : Nat} {oj : Oper} (hj : ops[j]? = some oj) (hsj : ∀ cs b, oj.op ≠ .select cs b) (hap : oi.apart ops oj = true) (hdst : ∀ c ∈ chk, oj.dst ≠ some c.1)
    (hkind : stillOp P oj.op = true ∨ ∃ t ta xv k, oj.op = .store t (.tmp ta) xv ∧ szOf P t = some k ∧ (ta, k) ∈ chk)
    :
    ∀ a w (K : Act → World → Prop),
      ((execOp a.eval oi = execOp a0.eval oi ∧ Region.wanted oi (yielded ops a.tmps) = true) ∧ (∀ k, k < m → w.cell? (p.add k) = w0.cell? (p.add k)) ∧ (∀ k, k < m → (w0.cell? (p.add k)).isSome = true) ∧
        (∀ c ∈ chk, ∃ q, a.tmps.getD c.1 undef = .pointer (some q) ∧ Away w p m q c.2)) →
      wpOp P ops Q j K (a.put oi.dst v) w →
      wpOp P ops Q j (fun a' w' => ((execOp a'.eval oi = execOp a0.eval oi ∧ Region.wanted oi (yielded ops a'.tmps) = true) ∧ (∀ k, k < m → w'.cell? (p.add k) = w0.cell? (p.add k)) ∧ (∀ k, k < m → (w0.cell? (p.add k)).isSome = true) ∧
        (∀ c ∈ chk, ∃ q, a'.tmps.getD c.1 undef = .pointer (some q) ∧ Away w' p m q c.2)) ∧ K (a'.put oi.dst v) w') a w := by
  intro a w K ⟨⟨c1, c1w⟩, c2, c3, c4⟩ h
  obtain ⟨h1, h2, h3⟩ := Oper.apart_spec hap
  have keepA : ∀ u, execOp (a.put oj.dst u).eval oi = execOp a0.eval oi ∧ Region.wanted oi (yielded ops (a.put oj.dst u).tmps) = true := fun u =>
    ⟨by rw [execOp_put oi hsi a oj.dst u h3, c1], by rw [wanted_put oi a oj.dst u h3, c1w]⟩
  have keepT : ∀ u, ∀ c ∈ chk, (a.put oj.dst u).tmps.getD c.1 undef = a.tmps.getD c.1 undef := fun u c hc => by
    cases hd : oj.dst with
    | none => rfl
    | some d =>
      have hne : d ≠ c.1 := fun e => hdst c hc (by rw [hd, e])
      simp [Act.put, Array.getElem?_setIfInBounds_ne hne]
  have keepC : ∀ w' : World, (∀ (b : Nat) (o : Obj), w.heap[b]? = some o → w'.heap[b]? = some o) → ∀ q : Addr, (w.cell? q).isSome = true → w'.cell? q = w.cell? q := fun w' hw q hq => by
    unfold World.cell? at hq ⊢
    cases hb : w.heap[q.block]? with
    | none => rw [hb] at hq; cases hq
    | some o => rw [hw _ _ hb]
  have here : ∀ k, k < m → (w.cell? (p.add k)).isSome = true := fun k hk => by rw [c2 k hk]; exact c3 k hk
  unfold wpOp at *
  simp only [hj] at *
  rw [wanted_put oj a oi.dst v h1] at h
  split
  · rename_i hw
    simp only [hw, if_true] at h
    rcases h with h | ⟨_, hlets⟩
    case inr => exact absurd hlets hout
    refine .inl ?_
    unfold Oper.wp at *
    rw [execOp_put oj hsj a oi.dst v h1] at h
    have comm : ∀ u w', K ((a.put oi.dst v).put oj.dst u) w' → K ((a.put oj.dst u).put oi.dst v) w' := fun u w' hk => by rwa [← Act.put_comm a v u h2]
    rcases hkind with hst | ⟨t, ta, xv, k, hop, hsz, hmem⟩
    · have htame := still_tame hst a.eval w
      cases hrun : (execOp a.eval oj).run P w with
      | halt x w' =>
        rw [hrun] at h
        cases x <;> simp only [Oper.upon] at h ⊢
        exact hQ _ _ _ _ h (by simp [put_defers])
      | ok x w' =>
        rw [hrun] at h
        obtain ⟨⟨u, rfl⟩, hheap⟩ := htame x w' hrun
        simp only [Oper.upon] at h ⊢
        refine ⟨⟨keepA u, fun k hk => by rw [keepC w' hheap _ (here k hk), c2 k hk], c3, fun c hc => ?_⟩, comm u w' h⟩
        obtain ⟨q, hq, g1, g2, g3⟩ := c4 c hc
        exact ⟨q, by rw [keepT u c hc]; exact hq, g1, fun j hj => by rw [keepC w' hheap _ (g2 j hj)]; exact g2 j hj, g3⟩
    · obtain ⟨q, hq, g1, g2, g3⟩ := c4 _ hmem
      obtain ⟨dj, opj, tyj, posj, afj, guj⟩ := oj
      simp only at hop
      subst hop
      have hev : a.eval (.tmp ta) = .pointer (some q) := hq
      cases hrun : (execOp a.eval ⟨dj, .store t (.tmp ta) xv, tyj, posj, afj, guj⟩).run P w with
      | halt x w' =>
        rw [hrun] at h
        cases x <;> simp only [Oper.upon] at h ⊢
        exact hQ _ _ _ _ h (by simp [put_defers])
      | ok x w' =>
        rw [hrun] at h
        simp only [execOp, Instr.storeAt, hev, Instr.sureAddr, storeVar, Sem.run_bind, Sem.run_pure, Result.andThen_ok, run_size hsz] at hrun
        by_cases hsize : (a.eval xv).cells.size = k
        · rw [if_neg (by simpa using hsize)] at hrun
          cases hst : (storeCells q (a.eval xv).cells.toList 0).run P w with
          | halt y w1 => simp only [hst] at hrun; cases hrun
          | ok y w1 =>
            simp only [hst, Result.andThen_ok] at hrun
            cases hrun
            obtain ⟨l1, l2⟩ := stores_leave _ q 0 w w' g1 (fun j hj => by rw [Nat.zero_add]; exact g2 j (by simpa [hsize] using hj)) hst
            simp only [Oper.upon] at h ⊢
            have same : ∀ i, i < m → w'.cell? (p.add i) = w.cell? (p.add i) := fun i hi => l1 _ fun j hj => by rw [Nat.zero_add]; exact g3 i j hi (by simpa [hsize] using hj)
            refine ⟨⟨keepA undef, fun i hi => by rw [same i hi, c2 i hi], c3, fun c hc => ?_⟩, comm undef w' h⟩
            obtain ⟨q', hq', f1, f2, f3⟩ := c4 c hc
            exact ⟨q', by rw [keepT undef c hc]; exact hq', f1, fun j hj => l2 _ (f2 j hj), f3⟩
        · rw [if_pos (by simpa using hsize)] at hrun
          simp at hrun
  · rename_i hw
    simp only [hw] at h
    refine ⟨⟨keepA undef, c2, c3, fun c hc => ?_⟩, by rw [← Act.put_comm a v undef h2]; exact h⟩
    obtain ⟨q', hq', f⟩ := c4 c hc
    exact ⟨q', by rw [keepT undef c hc]; exact hq', f⟩

theorem okOrder_cons {bef : Array Nat} {i : Nat} {chk : List (Nat × Nat)} {l : List (Nat × List (Nat × Nat))} {listed : Array Bool} (h : okOrder P ops bef ((i, chk) :: l) listed = true) :
    ∃ o, ops[i]? = some o ∧ okOrder P ops bef l (listed.setIfInBounds i true) = true ∧
      ((stillOp P o.op = true ∧ i ∈ Region.ready .any ops listed ∧ Region.free .any ops listed i = true ∧ (isLoad o.op = true → chkOf P ops bef listed i (List.range ops.size) = some chk) ∧ (isLoad o.op = false → chk = [])) ∨
       (stillOp P o.op = false ∧ Region.ready .any ops listed = [i] ∧ chk = [])) := by
  simp only [okOrder, Bool.and_eq_true] at h
  obtain ⟨h1, h2⟩ := h
  split at h1
  · rename_i o ho
    refine ⟨o, ho, h2, ?_⟩
    split at h1
    · rename_i hst
      simp only [Bool.and_eq_true] at h1
      obtain ⟨⟨g1, g2⟩, g3⟩ := h1
      refine .inl ⟨hst, by simpa using g1, g2, fun hl => ?_, fun hl => ?_⟩
      · rw [if_pos hl] at g3
        split at g3
        · rename_i c hc
          rw [hc]
          simpa using g3
        · cases g3
      · rw [if_neg (by simp [hl])] at g3
        simpa using g3
    · rename_i hst
      simp only [Bool.and_eq_true] at h1
      exact .inr ⟨by simpa using hst, by simpa using h1.1, by simpa using h1.2⟩
  · cases h1

theorem prepOps_cons {i : Nat} {chk : List (Nat × Nat)} {l : List (Nat × List (Nat × Nat))} {al : List AOper} {o : Oper} (ho : ops[i]? = some o) (h : prepOps P N G ops ((i, chk) :: l) = some al) :
    ∃ ao am, prepOper P N G ops o chk = some ao ∧ prepOps P N G ops l = some am ∧ al = ao :: am := by
  simp only [prepOps, ho] at h
  split at h
  · rename_i a m ha hm
    cases h
    exact ⟨a, m, ha, hm, rfl⟩
  · cases h

theorem draw_sound {cf : CallFn} (hcf : CallOK P G cf) (hns : Region.noSelect ops = true) {ρ0 : Nat → Place} {H0 : Heap} {w0 : World} {ds : List Deferred} {r : AExit} {e' : Env} {H' : Heap} :
    ∀ (l : List (Nat × List (Nat × Nat))) (listed : Array Bool) (al : List AOper) (e : Env) (H : Heap) (a : Act) (w : World) (ρ : Nat → Place),
      okOrder P ops (Region.before ops) l listed = true → Closed ops listed → prepOps P N G ops l = some al → Rel G ρ H w → Fits G N H.length ρ e a → Step G ρ0 H0 w0 ρ H w → a.defers = ds →
      evalOps cf al e H = some (r, e', H') → wpAny P .any ops (PostOK G ρ0 H0 w0 N ds r e' H') l.length listed a w := by
  intro l
  induction l with
  | nil =>
    intro listed al e H a w ρ hok hc hp hr hf hs hd hev
    simp only [prepOps] at hp
    cases hp
    simp only [evalOps] at hev
    cases hev
    simp only [okOrder] at hok
    exact ⟨by simpa using hok, ρ, hs, hd, rfl, hf.er⟩
  | cons p l ih =>
    intro listed al e H a w ρ hok hc hp hr hf hs hd hev
    obtain ⟨i, chk⟩ := p
    obtain ⟨o, ho, hok2, hcase⟩ := okOrder_cons hok
    obtain ⟨ao, am, hpo, hpm, rfl⟩ := prepOps_cons ho hp
    obtain ⟨hop, hdst, hchk, hchkN⟩ := prepOper_op hpo
    have hsel := Region.noSelect_spec hns
    have hQ : ∀ c a a' w, PostOK G ρ0 H0 w0 N ds r e' H' (.panic c) a w → a'.defers = a.defers → PostOK G ρ0 H0 w0 N ds r e' H' (.panic c) a' w := fun c a a' w h hd => h.panic hd
    rcases hcase with ⟨hst, hready, hfree, hchkL, hchkN2⟩ | ⟨hst, hready, hchk0⟩
    · -- still
      have hnext := closed_list hc hready
      have pure_case : ∀ v v', wantedA e ao.guard = some true ∨ wantedA e ao.guard = some false → VR H.length ρ v v' → Yields P ops o v' a → evalOps cf am (putO e ao.dst v) H = some (r, e', H') →
          wpAny P .any ops (PostOK G ρ0 H0 w0 N ds r e' H') (l.length + 1) listed a w := by
        intro v v' _ hvr hy hev2
        refine wpAny_first ho hsel (fun c a1 w1 h => hQ c _ _ w1 h (by simp [put_defers])) l.length listed a w (fun j oj hj hne hun hno => Region.free_spec ho hfree j oj hj hne hun hno) hready hy ?_
        rw [hdst] at hev2
        exact ih _ am _ H _ w ρ hok2 hnext hpm hr (hf.put hvr) hs (by rw [put_defers]; exact hd) hev2
      simp only [evalOps] at hev
      split at hev
      · cases hev
      · rename_i hw
        refine pure_case undef undef (.inr hw) .undef (.inr ⟨wanted_ok hpo hf hw, rfl⟩) hev
      · rename_i hw
        split at hev
        · cases hev
        · rename_i hapart
          have hapart' : apartOK e H ao.op ao.chk = true := by simpa using hapart
          rcases (op_ok (o := o) hop).2.2 hst e H with ⟨v, H1, hv⟩ | hv
          · rw [hv] at hev
            simp only at hev
            cases hl : isLoad o.op with
            | false =>
              obtain ⟨rfl, v', hvr, hsay⟩ := (op_ok (o := o) hop).2.1 hst hl H.length ρ e a H H1 v hf hv
              exact pure_case v v' (.inl hw) hvr (.inl ⟨wanted_ok hpo hf hw, hsay⟩) hev
            | true =>
              obtain ⟨dj, opj, tyj, posj, afj, guj⟩ := o
              cases opj <;> simp only [isLoad] at hl <;> first | (cases hl; done) | skip
              rename_i t x
              obtain ⟨rfl, b, oo, m, v', hshape, hx, hbn, hlive, hvr, hreads⟩ := reads_ok (dst := dj) (ty := tyj) (pos := posj) (after := afj) (guard := guj) hop hr hf hv
              have hch := hchkL rfl
              obtain ⟨hk1, hk2⟩ := chkOf_ok _ _ hch
              rw [hchk] at hapart'
              have haway : ∀ c ∈ chk, ∃ q, a.tmps.getD c.1 undef = .pointer (some q) ∧ Away w ⟨(ρ b).blk, (ρ b).off + oo, none⟩ m q c.2 := fun c hcm =>
                away_ok hr hf (hchkN c hcm) (apartOK_mem hshape hx chk hapart' c hcm)
              have hunw : ∀ c ∈ chk, ∀ (k : Nat) (ok : Oper), ops[k]? = some ok → listed.getD k true = false → ok.dst ≠ some c.1 := fun c hcm k ok hk hun => by
                have h9 := hk2 c hcm
                simp only [unwritten, List.all_eq_true, List.mem_range] at h9
                have := h9 k (Array.getElem?_eq_some_iff.1 hk).1
                simpa [hk, hun] using this
              let C : Act → World → Prop := fun a' w' => (execOp a'.eval ⟨dj, .load t x, tyj, posj, afj, guj⟩ = execOp a.eval ⟨dj, .load t x, tyj, posj, afj, guj⟩ ∧ Region.wanted ⟨dj, .load t x, tyj, posj, afj, guj⟩ (yielded ops a'.tmps) = true) ∧
                (∀ k, k < m → w'.cell? ((⟨(ρ b).blk, (ρ b).off + oo, none⟩ : Addr).add k) = w.cell? ((⟨(ρ b).blk, (ρ b).off + oo, none⟩ : Addr).add k)) ∧ (∀ k, k < m → (w.cell? ((⟨(ρ b).blk, (ρ b).off + oo, none⟩ : Addr).add k)).isSome = true) ∧
                (∀ c ∈ chk, ∃ q, a'.tmps.getD c.1 undef = .pointer (some q) ∧ Away w' ⟨(ρ b).blk, (ρ b).off + oo, none⟩ m q c.2)
              let U : Nat → Prop := fun j => ∃ oj, ops[j]? = some oj ∧ (Oper.apart ops ⟨dj, .load t x, tyj, posj, afj, guj⟩ oj = true) ∧ (∀ c ∈ chk, oj.dst ≠ some c.1) ∧
                (stillOp P oj.op = true ∨ ∃ t ta xv k, oj.op = .store t (.tmp ta) xv ∧ szOf P t = some k ∧ (ta, k) ∈ chk)
              refine wpAny_firstC (oi := ⟨dj, .load t x, tyj, posj, afj, guj⟩) (v := v') C U ?_ ?_ l.length listed a w hc ?_ hready ?_ ?_
              · rintro a' w' ⟨⟨g1, g2⟩, g3, g4, g5⟩ K hK
                unfold wpOp
                simp only [ho, g2, if_true]
                left
                unfold Oper.wp
                rw [g1, hreads.same w' g3]
                exact hK
              · rintro j ⟨oj, hj, q1, q2, q3⟩ a' w' K hC hh
                exact load_pass (a0 := a) (w0 := w) hQ PostOK.out (fun cs b => by simp) hj (fun cs b => hsel j oj cs b hj) q1 q2 q3 a' w' K hC hh
              · intro j oj hj hne hun hb hd'
                exact ⟨oj, hj, Region.free_spec ho hfree j oj hj hne hun hd', fun c hcm => hunw c hcm j oj hj hun,
                  hk1 j (by simpa using (Array.getElem?_eq_some_iff.1 hj).1) hne hun hb oj hj⟩
              · exact ⟨⟨rfl, wanted_ok hpo hf hw⟩, fun k _ => rfl, hreads.there, haway⟩
              · rw [hdst] at hev
                exact ih _ am _ H1 _ w ρ hok2 hnext hpm hr (hf.put hvr) hs (by rw [put_defers]; exact hd) hev
          · rw [hv] at hev
            cases hev
    · -- the only one that is ready
      have hmem : i ∈ Region.ready .any ops listed := by rw [hready]; simp
      refine ⟨fun h => (by rw [h] at hready; cases hready), fun j hj => ?_⟩
      rw [hready] at hj
      have : j = i := by simpa using hj
      subst this
      refine op_step hcf hpo ho hr hf hev (fun e1 H1 ρ1 a1 w1 hev1 hs1 hf1 hd1 => ?_) (fun v v' ρ1 w1 hrv hs1 hvr => ?_)
      · exact ih _ am e1 H1 a1 w1 ρ1 hok2 (closed_list hc hmem) hpm hs1.rel hf1 (hs.trans hs1) (hd1.trans hd) hev1
      · subst hrv
        exact ⟨ρ1, hs.trans hs1, hd, v', rfl, hvr⟩

theorem seq_sound {cf : CallFn} (hcf : CallOK P G cf) {ρ0 : Nat → Place} {H0 : Heap} {w0 : World} {ds : List Deferred} {r : AExit} {e' : Env} {H' : Heap} :
    ∀ (l : List Nat) (al : List AOper) (e : Env) (H : Heap) (a : Act) (w : World) (ρ : Nat → Place),
      prepOps P N G ops (l.map fun i => (i, [])) = some al → (∀ i ∈ l, i < ops.size) → Rel G ρ H w → Fits G N H.length ρ e a → Step G ρ0 H0 w0 ρ H w → a.defers = ds →
      evalOps cf al e H = some (r, e', H') → wpOps P ops (PostOK G ρ0 H0 w0 N ds r e' H') l a w := by
  intro l
  induction l with
  | nil =>
    intro al e H a w ρ hp _ hr hf hs hd hev
    simp only [List.map_nil, prepOps] at hp
    cases hp
    simp only [evalOps] at hev
    cases hev
    exact ⟨ρ, hs, hd, rfl, hf.er⟩
  | cons i l ih =>
    intro al e H a w ρ hp hl hr hf hs hd hev
    have hi : i < ops.size := hl i (by simp)
    have ho : ops[i]? = some ops[i] := by simp [hi]
    rw [List.map_cons] at hp
    obtain ⟨ao, am, hpo, hpm, rfl⟩ := prepOps_cons ho hp
    rw [wpOps_cons]
    refine op_step hcf hpo ho hr hf hev (fun e1 H1 ρ1 a1 w1 hev1 hs1 hf1 hd1 => ?_) (fun v v' ρ1 w1 hrv hs1 hvr => ?_)
    · exact ih am e1 H1 a1 w1 ρ1 hpm (fun j hj => hl j (by simp [hj])) hs1.rel hf1 (hs.trans hs1) (hd1.trans hd) hev1
    · subst hrv
      exact ⟨ρ1, hs.trans hs1, hd, v', rfl, hvr⟩

end Go.Proofs.YtedemfmafdilmaaDoor.Ev
