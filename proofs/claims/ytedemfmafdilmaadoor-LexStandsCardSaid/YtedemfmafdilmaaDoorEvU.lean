/- The evaluator's functions are the model's: what it answers, a call comes to, in every world that its blocks fit. Conditions: none. -/
import Derived.Test.YtedemfmafdilmaaDoorEvT
import Derived.LoopN
namespace Go.Proofs.YtedemfmafdilmaaDoor.Ev

variable {P : Program} {N G : Nat} {ρ : Nat → Place}

theorem region_sound {cf : CallFn} (hm : P.follows .mixedOrders = true) (hcf : CallOK P G cf) {ρ0 : Nat → Place} {H0 : Heap} {w0 : World} {ds : List Deferred} {r : AExit} {e' : Env} {H' : Heap} {k id : Nat} {ops : Array Oper} {draw : Bool} {ac : ACode}
    (hp : prepRegion P N G ops draw = some ac) {e : Env} {H : Heap} {a : Act} {w : World} (hr : Rel G ρ H w) (hf : Fits G N H.length ρ e a) (hs : Step G ρ0 H0 w0 ρ H w) (hd : a.defers = ds)
    (hev : evalCode cf k ac e H = some (r, e', H')) : (Code.region id ops draw).wp P (PostOK G ρ0 H0 w0 N ds r e' H') a w := by
  unfold prepRegion at hp
  split at hp
  · rename_i hdraw
    subst hdraw
    split at hp
    · rename_i hc
      obtain ⟨al, hal, rfl⟩ := Option.map_eq_some_iff.1 hp
      simp only [evalCode] at hev
      refine wp_region_any hm ?_
      have hw : Rel G ρ H { w with drawn := w.drawn + 1 } := hr.congr rfl
      have hh := draw_sound hcf hc.2.1 _ _ al e H a _ ρ hc.2.2 (closed_start ops) hal hw hf (hs.trans (Step.drawn hr rfl rfl rfl rfl)) hd hev
      rw [hc.1] at hh
      exact hh
    · cases hp
  · rename_i hdraw
    have : draw = false := by simpa using hdraw
    subst this
    obtain ⟨al, hal, rfl⟩ := Option.map_eq_some_iff.1 hp
    simp only [evalCode] at hev
    exact wp_region (seq_sound hcf _ al e H a w ρ hal (fun i hi => by simpa using hi) hr hf hs hd hev)

theorem code_sound {cf : CallFn} (hm : P.follows .mixedOrders = true) (hcf : CallOK P G cf) {ρ0 : Nat → Place} {H0 : Heap} {w0 : World} {ds : List Deferred} {k : Nat} :
    ∀ (c : Code) (ac : ACode), prepCode P N G c = some ac → ∀ (e : Env) (H : Heap) (a : Act) (w : World) (ρ : Nat → Place) (r : AExit) (e' : Env) (H' : Heap),
      Rel G ρ H w → Fits G N H.length ρ e a → Step G ρ0 H0 w0 ρ H w → a.defers = ds → evalCode cf k ac e H = some (r, e', H') → c.wp P (PostOK G ρ0 H0 w0 N ds r e' H') a w := by
  have again : ∀ {e : Env} {H : Heap} {ρ : Nat → Place} {a : Act} {w : World}, Step G ρ0 H0 w0 ρ H w → ER H.length ρ N e a.tmps → Rel G ρ H w ∧ Fits G N H.length ρ e a := fun hs he =>
    ⟨hs.rel, he, hs.rel.many, hs.rel.glob⟩
  intro c
  induction c with
  | skip =>
    intro ac hp e H a w ρ r e' H' hr hf hs hd hev
    simp only [prepCode] at hp; cases hp
    simp only [evalCode] at hev; cases hev
    exact wp_skip ⟨ρ, hs, hd, rfl, hf.er⟩
  | region id ops draw =>
    intro ac hp e H a w ρ r e' H' hr hf hs hd hev
    simp only [prepCode] at hp
    exact region_sound hm hcf hp hr hf hs hd hev
  | seq x y ihx ihy =>
    intro ac hp e H a w ρ r e' H' hr hf hs hd hev
    simp only [prepCode] at hp
    split at hp
    · rename_i ax ay hx hy
      cases hp
      simp only [evalCode] at hev
      refine wp_seq ?_
      split at hev
      · rename_i e1 H1 h1
        refine wp_mono (ihx ax hx e H a w ρ _ _ _ hr hf hs hd h1) fun ex a1 w1 hq => ?_
        obtain ⟨ρ1, hs1, hd1, hex, her⟩ := hq
        subst hex
        obtain ⟨hr1, hf1⟩ := again hs1 her
        exact ihy ay hy e1 H1 a1 w1 ρ1 r e' H' hr1 hf1 hs1 hd1 hev
      · rename_i hnot
        refine wp_mono (ihx ax hx e H a w ρ r e' H' hr hf hs hd hev) fun ex a1 w1 hq => ?_
        cases r with
        | norm => exact absurd hev (hnot _ _)
        | exit i => obtain ⟨ρ1, hs1, hd1, rfl, her⟩ := hq; exact ⟨ρ1, hs1, hd1, rfl, her⟩
        | ret => obtain ⟨ρ1, hs1, hd1, rfl, her⟩ := hq; exact ⟨ρ1, hs1, hd1, rfl, her⟩
        | pan v => obtain ⟨ρ1, hs1, hd1, v', rfl, her⟩ := hq; exact ⟨ρ1, hs1, hd1, v', rfl, her⟩
    · cases hp
  | cond c x y ihx ihy =>
    intro ac hp e H a w ρ r e' H' hr hf hs hd hev
    simp only [prepCode] at hp
    split at hp
    · rename_i hc
      split at hp
      · rename_i ax ay hx hy
        cases hp
        simp only [evalCode] at hev
        have h1 := hf.op hc
        split at hev
        · rename_i hb
          rw [hb] at h1
          exact wp_cond_true h1.inv_bool (ihx ax hx e H a w ρ r e' H' hr hf hs hd hev)
        · rename_i hb
          rw [hb] at h1
          exact wp_cond_false h1.inv_bool (ihy ay hy e H a w ρ r e' H' hr hf hs hd hev)
        · cases hev
      · cases hp
    · cases hp
  | block id c ih =>
    intro ac hp e H a w ρ r e' H' hr hf hs hd hev
    simp only [prepCode] at hp
    obtain ⟨ax, hx, rfl⟩ := Option.map_eq_some_iff.1 hp
    simp only [evalCode] at hev
    refine wp_block ?_
    split at hev
    · rename_i i e1 H1 h1
      refine wp_mono (ih ax hx e H a w ρ _ _ _ hr hf hs hd h1) fun ex a1 w1 hq => ?_
      obtain ⟨ρ1, hs1, hd1, rfl, her⟩ := hq
      split at hev
      · rename_i hi
        cases hev
        simp only [Exit.inBlock, hi, if_true]
        exact ⟨ρ1, hs1, hd1, rfl, her⟩
      · rename_i hi
        cases hev
        simp only [Exit.inBlock, hi, if_false]
        exact ⟨ρ1, hs1, hd1, rfl, her⟩
    · rename_i hnot
      refine wp_mono (ih ax hx e H a w ρ r e' H' hr hf hs hd hev) fun ex a1 w1 hq => ?_
      cases r with
      | norm => obtain ⟨ρ1, hs1, hd1, rfl, her⟩ := hq; exact ⟨ρ1, hs1, hd1, rfl, her⟩
      | exit i => exact absurd hev (hnot _ _ _)
      | ret => obtain ⟨ρ1, hs1, hd1, rfl, her⟩ := hq; exact ⟨ρ1, hs1, hd1, rfl, her⟩
      | pan v => obtain ⟨ρ1, hs1, hd1, v', rfl, her⟩ := hq; exact ⟨ρ1, hs1, hd1, v', rfl, her⟩
  | loop c ih =>
    intro ac hp e H a w ρ r e' H' hr hf hs hd hev
    simp only [prepCode] at hp
    obtain ⟨ax, hx, rfl⟩ := Option.map_eq_some_iff.1 hp
    simp only [evalCode] at hev
    have key : ∀ (n : Nat) (e : Env) (H : Heap) (a : Act) (w : World) (ρ : Nat → Place), Rel G ρ H w → Fits G N H.length ρ e a → Step G ρ0 H0 w0 ρ H w → a.defers = ds →
        iter n (fun e H => evalCode cf k ax e H) e H = some (r, e', H') → Code.rounds P c (PostOK G ρ0 H0 w0 N ds r e' H') n a w := by
      intro n
      induction n with
      | zero => intro e H a w ρ _ _ _ _ h; simp only [iter] at h; cases h
      | succ n ihn =>
        intro e H a w ρ hr hf hs hd h
        simp only [iter] at h
        rw [rounds_succ]
        split at h
        · rename_i e1 H1 h1
          refine wp_mono (ih ax hx e H a w ρ _ _ _ hr hf hs hd h1) fun ex a1 w1 hq => ?_
          obtain ⟨ρ1, hs1, hd1, hex, her⟩ := hq
          subst hex
          obtain ⟨hr1, hf1⟩ := again hs1 her
          exact ihn e1 H1 a1 w1 ρ1 hr1 hf1 hs1 hd1 h
        · rename_i hnot
          refine wp_mono (ih ax hx e H a w ρ r e' H' hr hf hs hd h) fun ex a1 w1 hq => ?_
          cases r with
          | norm => exact absurd h (hnot _ _)
          | exit i => obtain ⟨ρ1, hs1, hd1, rfl, her⟩ := hq; exact ⟨ρ1, hs1, hd1, rfl, her⟩
          | ret => obtain ⟨ρ1, hs1, hd1, rfl, her⟩ := hq; exact ⟨ρ1, hs1, hd1, rfl, her⟩
          | pan v => obtain ⟨ρ1, hs1, hd1, v', rfl, her⟩ := hq; exact ⟨ρ1, hs1, hd1, v', rfl, her⟩
    exact wp_loop_rounds k (key k e H a w ρ hr hf hs hd hev)
  | exit id =>
    intro ac hp e H a w ρ r e' H' hr hf hs hd hev
    simp only [prepCode] at hp; cases hp
    simp only [evalCode] at hev; cases hev
    exact wp_exit ⟨ρ, hs, hd, rfl, hf.er⟩
  | ret =>
    intro ac hp e H a w ρ r e' H' hr hf hs hd hev
    simp only [prepCode] at hp; cases hp
    simp only [evalCode] at hev; cases hev
    exact wp_ret ⟨ρ, hs, hd, rfl, hf.er⟩
  | rangeFunc f ps x y => intro ac hp; simp only [prepCode] at hp; cases hp
  | scope c => intro ac hp; simp only [prepCode] at hp; cases hp
  | label l => intro ac hp; simp only [prepCode] at hp; cases hp
  | goto l => intro ac hp; simp only [prepCode] at hp; cases hp
  | refuse s => intro ac hp; simp only [prepCode] at hp; cases hp

theorem as_addr (a : Addr) : asAddr (.pointer (some a)) = pure a := rfl

theorem results_sound {H : Heap} {w : World} {e : Env} {tmps : Array Value} {g : ResultVar → Sem Value} (hg1 : ∀ t, g (.tmp t) = pure (tmps.getD t undef)) (hg2 : ∀ a t, g (.cell a t) = (do loadVar t (← asAddr (tmps.getD a undef)))) (hr : Rel G ρ H w) (he : ER H.length ρ N e tmps) : ∀ (l : List ResultVar) (rs : List AResult) (vs : List Value), prepRes P N l = some rs → resultsL e H rs = some vs →
    ∃ vs', VL H.length ρ vs vs' ∧ (l.mapM g : Sem (List Value)).run P w = .ok vs' w := by
  intro l
  induction l with
  | nil =>
    intro rs vs hp hv
    simp only [prepRes] at hp; cases hp
    simp only [resultsL] at hv; cases hv
    exact ⟨[], VL.nil, rfl⟩
  | cons x l ih =>
    intro rs vs hp hv
    cases x with
    | tmp t =>
      simp only [prepRes] at hp
      split at hp
      · rename_i m hm
        split at hp
        · rename_i ht
          cases hp
          simp only [resultsL, resultOf] at hv
          split at hv
          · rename_i v vs1 hv1 hvs
            cases hv1
            cases hv
            obtain ⟨vs', hvl, hrun⟩ := ih m vs1 hm hvs
            refine ⟨tmps.getD t undef :: vs', VL.cons (he.2 t ht) hvl, ?_⟩
            rw [List.mapM_cons, hg1]
            simp only [Sem.run_bind, Sem.run_pure, Result.andThen_ok, hrun]
          · cases hv
        · cases hp
      · cases hp
    | cell a t =>
      simp only [prepRes] at hp
      split at hp
      · rename_i m n hm hagg hsz
        split at hp
        · rename_i ht
          cases hp
          simp only [resultsL, resultOf] at hv
          split at hv
          · rename_i v vs1 hv1 hvs
            cases hv
            obtain ⟨vs', hvl, hrun⟩ := ih m vs1 hm hvs
            have h1 := he.2 a ht
            split at hv1
            · rename_i b o hb
              rw [hb] at h1
              obtain ⟨hbn, hv2⟩ := h1.inv_ptr
              split at hv1
              · rename_i cs u wr hrow
                split at hv1
                · rename_i hle
                  cases hv1
                  obtain ⟨cells, t', fr, hh, hc, _⟩ := hr.obj b _ (hget_some hrow rfl)
                  obtain ⟨hvl2, hlen, hload⟩ := row_list hh hc hle
                  refine ⟨.agg ((cells.toList.drop ((ρ b).off + o)).take n).toArray :: vs', VL.cons hvl2.agg hvl, ?_⟩
                  have hld := hload P w rfl
                  have hlv : (loadVar t ⟨(ρ b).blk, (ρ b).off + o, none⟩).run P w = .ok (.agg ((cells.toList.drop ((ρ b).off + o)).take n).toArray) w := by
                    unfold loadVar
                    simp [run_agg hagg, run_size hsz, hld]
                  rw [List.mapM_cons, hg2]
                  simp only [Sem.run_bind, hv2, as_addr, Sem.run_pure, Result.andThen_ok, hlv, hrun]
                · cases hv1
              · cases hv1
            · cases hv1
          · cases hv
        · cases hp
      · rename_i m hm hagg
        split at hp
        · rename_i ht
          cases hp
          simp only [resultsL, resultOf] at hv
          split at hv
          · rename_i v vs1 hv1 hvs
            cases hv
            obtain ⟨vs', hvl, hrun⟩ := ih m vs1 hm hvs
            have h1 := he.2 a ht
            split at hv1
            · rename_i b o hb
              rw [hb] at h1
              obtain ⟨hbn, hv2⟩ := h1.inv_ptr
              split at hv1
              · rename_i cs u wr hrow
                obtain ⟨cells, t', fr, hh, hc, _⟩ := hr.obj b _ (hget_some hrow rfl)
                obtain ⟨v', hv', hvr⟩ := hc o v hv1
                refine ⟨v' :: vs', VL.cons hvr hvl, ?_⟩
                have hlv : (loadVar t ⟨(ρ b).blk, (ρ b).off + o, none⟩).run P w = .ok v' w := by
                  unfold loadVar
                  simp [run_agg hagg, cell_of hh, hv']
                rw [List.mapM_cons, hg2]
                simp only [Sem.run_bind, hv2, as_addr, Sem.run_pure, Result.andThen_ok, hlv, hrun]
              · cases hv1
            · cases hv1
          · cases hv
        · cases hp
      · cases hp

theorem run_results {H : Heap} {w : World} {e : Env} {tmps : Array Value} {fn : Func} {rs : List AResult} {vs : List Value} (hr : Rel G ρ H w) (he : ER H.length ρ N e tmps) (hp : prepRes P N fn.results.toList = some rs) (hv : resultsL e H rs = some vs) :
    ∃ vs', VL H.length ρ vs vs' ∧ (results fn tmps).run P w = .ok (if h : vs'.toArray.size = 1 then vs'.toArray[0] else .tuple vs'.toArray) w := by
  unfold results
  generalize hg : (fun r : ResultVar => (match r with | .tmp t => pure (tmps.getD t undef) | .cell a t => do loadVar t (← asAddr (tmps.getD a undef)) : Sem Value)) = g
  obtain ⟨vs', hvl, hrun⟩ := results_sound (g := g) (fun t => by rw [← hg]) (fun a t => by rw [← hg]) hr he fn.results.toList rs vs hp hv
  refine ⟨vs', hvl, ?_⟩
  rw [Array.mapM_eq_mapM_toList]
  simp only [Sem.run_bind, Sem.run_map, hrun, Result.andThen_ok, Sem.run_pure]

theorem pack_sound {n : Nat} {vs vs' : List Value} (h : VL n ρ vs vs') : VR n ρ (pack vs) (if h : vs'.toArray.size = 1 then vs'.toArray[0] else .tuple vs'.toArray) := by
  cases vs with
  | nil =>
    have : vs' = [] := List.eq_nil_of_length_eq_zero h.1.symm
    subst this
    exact VL.tuple VL.nil
  | cons v vs =>
    cases vs' with
    | nil => have := h.1; simp at this
    | cons v' vs' =>
      cases vs with
      | nil =>
        have : vs' = [] := List.eq_nil_of_length_eq_zero (by have := h.1; simpa using this.symm)
        subst this
        exact h.head
      | cons u vs =>
        cases vs' with
        | nil => have := h.1; simp at this
        | cons u' vs' =>
          rw [dif_neg (by simp)]
          exact VL.tuple h

/-- A program, and how many variables it has. -/
structure Pg where
  P : Program
  G : Nat

/-- A program's function, laid for the evaluator. -/
def Laid (T : Pg) (f : FuncId) (af : AFunc) : Prop := ∃ fn, T.P.funcs[f]? = some fn ∧ prepFn T.P T.G fn = some af

def TableOK (P : Program) (G : Nat) (T : Table) : Prop := ∀ (f : FuncId) (af : AFunc), T f = some af →
  match af with
  | .code _ _ _ => ∃ fn, P.funcs[f]? = some fn ∧ prepFn P G fn = some af
  | .ext g => ∀ (args : List Value) (v : Value), g args = some v → closedV v = true ∧ ∀ (n : Nat) (ρ : Nat → Place) (args' : Array Value), VL n ρ args args'.toList → ∀ w, (callFunc f args').run P w = .ok (.value v) w

theorem get_pad : ∀ (n : Nat) (l : List Value) (i : Nat), get (pad n l) i = get l i
  | 0, _, _ => rfl
  | n + 1, [], 0 => rfl
  | n + 1, [], i + 1 => by
    rw [show get (pad (n + 1) []) (i + 1) = get (pad n []) i from rfl, get_pad n [] i]
    cases i <;> rfl
  | n + 1, v :: l, 0 => rfl
  | n + 1, v :: l, i + 1 => get_pad n l i

theorem fn_sound {T : Table} (hm : P.follows .mixedOrders = true) (hT : TableOK P G T) : ∀ k, CallOK P G (evalFn T k) := by
  intro k
  induction k with
  | zero => intro f args H res H1 h; simp only [evalFn] at h; cases h
  | succ k ih =>
    intro f args H res H1 h ρ w args' hr hvl
    simp only [evalFn] at h
    split at h
    · rename_i n body rs hf
      right
      obtain ⟨fn, hfn, hprep⟩ := hT f _ hf
      unfold prepFn at hprep
      split at hprep
      · cases hprep
      · rename_i c hbody
        split at hprep
        · cases hprep
        · rename_i hname
          split at hprep
          · rename_i b r hb hres
            cases hprep
            refine ⟨?_, ?_⟩
            · have hn2 : (fn.name == "runtime.NumGoroutine") = false := by simpa using hname
              unfold callFunc
              simp only [Sem.run_bind, run_program, Result.andThen_ok, hfn, hn2, Bool.false_eq_true, if_false, hbody, Option.isNone_some, Sem.run_pure]
            · split at h
              · rename_i hlen
                refine calls_of_wp hfn hbody ?_
                have hsz : args'.size = args.length := by have := hvl.1; simpa using this.symm
                have hfit : Fits G fn.ntmps H.length ρ (pad fn.ntmps args) { tmps := args' ++ Array.replicate (fn.ntmps - args'.size) undef, defers := [] } := by
                  refine ⟨⟨by simp; omega, fun i hi => ?_⟩, hr.many, hr.glob⟩
                  rw [get_pad, get_eq]
                  have e1 : (args' ++ Array.replicate (fn.ntmps - args'.size) undef).getD i undef = args'.toList.getD i undef := by
                    simp only [Array.getD_eq_getD_getElem?, List.getD_eq_getElem?_getD, Array.getElem?_append, Array.getElem?_toList]
                    split
                    · rfl
                    · rename_i hge
                      rw [Array.getElem?_replicate, Array.getElem?_eq_none (xs := args') (by omega)]
                      split <;> rfl
                  rw [e1]
                  exact hvl.getD i
                unfold finish at h
                split at h
                · rename_i e' H' hev
                  split at h
                  · rename_i vs hvs
                    cases h
                    refine wp_mono (code_sound hm ih c body hb (pad fn.ntmps args) H _ w ρ _ _ _ hr hfit (Step.refl hr) rfl hev) fun ex a1 w1 hq => ?_
                    obtain ⟨ρ1, hs, hd, rfl, her⟩ := hq
                    obtain ⟨vs', hvl', hrun⟩ := run_results hs.rel her hres hvs
                    exact ⟨hd, _, hrun, ρ1, hs, _, rfl, pack_sound hvl'⟩
                  · cases h
                · rename_i e' H' hev
                  split at h
                  · rename_i vs hvs
                    cases h
                    refine wp_mono (code_sound hm ih c body hb (pad fn.ntmps args) H _ w ρ _ _ _ hr hfit (Step.refl hr) rfl hev) fun ex a1 w1 hq => ?_
                    obtain ⟨ρ1, hs, hd, rfl, her⟩ := hq
                    obtain ⟨vs', hvl', hrun⟩ := run_results hs.rel her hres hvs
                    exact ⟨hd, _, hrun, ρ1, hs, _, rfl, pack_sound hvl'⟩
                  · cases h
                · rename_i v e' H' hev
                  cases h
                  refine wp_mono (code_sound hm ih c body hb (pad fn.ntmps args) H _ w ρ _ _ _ hr hfit (Step.refl hr) rfl hev) fun ex a1 w1 hq => ?_
                  obtain ⟨ρ1, hs, hd, v', rfl, hvr⟩ := hq
                  exact ⟨hd, ρ1, hs, v', rfl, hvr⟩
                · cases h
              · cases h
          · cases hprep
    · rename_i g hf
      left
      obtain ⟨v, hv, hh⟩ := Option.map_eq_some_iff.1 h
      cases hh
      obtain ⟨hcl, hrun⟩ := hT f _ hf args v hv
      exact ⟨v, v, rfl, rfl, hrun _ ρ args' hvl w, .of_closed hcl⟩
    · cases h

end Go.Proofs.YtedemfmafdilmaaDoor.Ev
