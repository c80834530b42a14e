/- A region that draws its order: loads may be passed by what leaves their cells alone. Conditions: none. -/
import Derived.Test.YtedemfmafdilmaaDoorEvR
namespace Go.Proofs.YtedemfmafdilmaaDoor.Ev

variable {P : Program} {N G : Nat} {ρ : Nat → Place} {ops : Array Oper}

/-- What a load reads. -/
structure Reads (P : Program) (o : Oper) (ev : Operand → Value) (w : World) (p : Addr) (m : Nat) (v : Value) : Prop where
  same : ∀ w', (∀ k, k < m → w'.cell? (p.add k) = w.cell? (p.add k)) → (execOp ev o).run P w' = .ok (.value v) w'
  there : ∀ k, k < m → (w.cell? (p.add k)).isSome = true

theorem reads_ok {dst : Option Nat} {t : TypeId} {x : Operand} {ty : TypeId} {pos : String} {after : Array Edge} {guard : Option (Nat × Bool)} {ao : AOp} {e : Env} {a : Act} {H H' : Heap} {w : World} {v : Value}
    (hp : prepOp P N G (.load t x) = some ao) (hr : Rel G ρ H w) (hf : Fits G N H.length ρ e a) (h : aop e H ao = .val v H') :
    H' = H ∧ ∃ (b o m : Nat) (v' : Value), (ao = .load1 x ∧ m = 1 ∨ ao = .loadN m x) ∧ aev e x = .pointer (some ⟨b, o, none⟩) ∧ b < H.length ∧ (hget H b).live = true ∧ VR H.length ρ v v' ∧
      Reads P ⟨dst, .load t x, ty, pos, after, guard⟩ a.eval w ⟨(ρ b).blk, (ρ b).off + o, none⟩ m v' := by
  simp only [prepOp] at hp
  split at hp
  · rename_i hx
    have h1 := hf.op hx
    split at hp
    · rename_i m ha hs
      cases hp
      simp only [aop] at h
      split at h
      · rename_i b o hb
        split at h
        · rename_i cs u wr hrow
          split at h
          · rename_i hle
            simp only [ARes.val.injEq] at h
            obtain ⟨rfl, rfl⟩ := h
            have hbx := hb
            rw [hb] at h1
            obtain ⟨hbn, hv⟩ := h1.inv_ptr
            obtain ⟨cells, t', fr, hh, hc, _⟩ := hr.obj b _ (hget_some hrow rfl)
            obtain ⟨hvl, hlen, hrun⟩ := row_list hh hc hle
            refine ⟨rfl, b, o, m, _, .inr rfl, hbx, hbn, by rw [hrow]; rfl, hvl.agg, ?_, ?_⟩
            · intro w' hw'
              have hcell : ∀ j v, ((cells.toList.drop ((ρ b).off + o)).take m)[j]? = some v → w'.cell? ((⟨(ρ b).blk, (ρ b).off + o, none⟩ : Addr).add j) = some v := fun j v hj => by
                have hjm : j < m := by
                  have := (List.getElem?_eq_some_iff.1 hj).1
                  rw [hlen] at this; exact this
                rw [hw' j hjm, add_spot, cell_of hh]
                rw [List.getElem?_take, if_pos hjm, List.getElem?_drop] at hj
                simpa using hj
              have := run_loadCells_list (P := P) w' ⟨(ρ b).blk, (ρ b).off + o, none⟩ _ hcell
              rw [hlen] at this
              simp [execOp, Instr.loadAt, hv, Instr.sureAddr, loadVar, run_agg ha, run_size hs, this]
            · intro k hk
              rw [add_spot, cell_of hh]
              obtain ⟨v', hv', _⟩ := hc (o + k) _ (List.getElem?_eq_getElem (by omega))
              rw [Nat.add_assoc, hv']; rfl
          · cases h
        · cases h
      · cases h
    · rename_i ha
      cases hp
      simp only [aop] at h
      split at h
      · rename_i b o hb
        split at h
        · rename_i cs u wr hrow
          obtain ⟨h3, rfl⟩ := ofO_val h
          have hbx := hb
          rw [hb] at h1
          obtain ⟨hbn, hv⟩ := h1.inv_ptr
          obtain ⟨cells, t', fr, hh, hc, _⟩ := hr.obj b _ (hget_some hrow rfl)
          obtain ⟨v', hv', hvr⟩ := hc o v h3
          refine ⟨rfl, b, o, 1, v', .inl ⟨rfl, rfl⟩, hbx, hbn, by rw [hrow]; rfl, hvr, ?_, ?_⟩
          · intro w' hw'
            have := hw' 0 (by omega)
            rw [add_spot, Nat.add_zero, cell_of hh, hv'] at this
            simp [execOp, Instr.loadAt, hv, Instr.sureAddr, loadVar, run_agg ha, this]
          · intro k hk
            have : k = 0 := by omega
            subst this
            rw [add_spot, cell_of hh, Nat.add_zero, hv']; rfl
        · cases h
      · cases h
    · cases hp
  · cases hp

/-- A place that a store is to write lies apart from what a load reads. -/
def Away (w : World) (p : Addr) (m : Nat) (q : Addr) (k : Nat) : Prop :=
  q.spot = none ∧ (∀ j, j < k → (w.cell? (q.add j)).isSome = true) ∧ ∀ i j, i < m → j < k → p.add i ≠ q.add j

theorem away_ok {e : Env} {a : Act} {H : Heap} {w : World} {b o m t k : Nat} (hr : Rel G ρ H w) (hf : Fits G N H.length ρ e a) (ht : t < N)
    (h : apart2 H (.pointer (some ⟨b, o, none⟩)) m (get e t) k = true) : ∃ q, a.tmps.getD t undef = .pointer (some q) ∧ Away w ⟨(ρ b).blk, (ρ b).off + o, none⟩ m q k := by
  unfold apart2 at h
  split at h
  · rename_i b1 o1 c p hx hy
    cases hx
    simp only [Bool.and_eq_true] at h
    obtain ⟨h1, h2⟩ := h
    have hv := hf.er.2 t ht
    rw [hy] at hv
    refine ⟨_, hv.inv_ptr.2, rfl, ?_, ?_⟩
    · intro j hj
      split at h1
      · rename_i cs u hrow
        obtain ⟨cells, t', fr, hh, hc, _⟩ := hr.obj c _ (hget_some hrow rfl)
        have hle : p + k ≤ cs.length := by simpa using h1
        obtain ⟨v', hv', _⟩ := hc (p + j) _ (List.getElem?_eq_getElem (by omega))
        rw [add_spot, cell_of hh, Nat.add_assoc, hv']; rfl
      · cases h1
    · intro i j hi hj
      rw [add_spot, add_spot]
      split at h1
      · rename_i cs u hrow
        split at h2
        · rename_i hbc
          subst hbc
          intro heq
          injection heq with _ heq
          simp only [Bool.or_eq_true, decide_eq_true_eq] at h2
          omega
        · rename_i hbc
          have hl : H[b]? = some (hget H b) := hget_some rfl h2
          have := hr.inj c b _ _ (hget_some hrow rfl) hl (fun e => hbc e.symm) rfl h2
          intro heq
          injection heq with heq
          exact this heq.symm
      · cases h1
  · cases h

/-- A run of stores leaves the other cells alone, and every cell there. -/
theorem stores_leave : ∀ (vs : List Value) (q : Addr) (i : Nat) (w w' : World), q.spot = none → (∀ j, j < vs.length → (w.cell? (q.add (i + j))).isSome = true) → (storeCells q vs i).run P w = .ok () w' →
    (∀ p : Addr, (∀ j, j < vs.length → p ≠ q.add (i + j)) → w'.cell? p = w.cell? p) ∧ ∀ p : Addr, (w.cell? p).isSome = true → (w'.cell? p).isSome = true := by
  intro vs
  induction vs with
  | nil => intro q i w w' _ _ h; simp only [storeCells, Sem.run_pure] at h; cases h; exact ⟨fun _ _ => rfl, fun _ h => h⟩
  | cons v vs ih =>
    intro q i w w' hq hs h
    simp only [storeCells, Sem.run_bind] at h
    have h0 := hs 0 (by simp)
    rw [Nat.add_zero] at h0
    cases hv : v.oneCell' with
    | false =>
      cases v <;> simp [Value.oneCell'] at hv <;> simp [store, Sem.run] at h
    | true =>
      rw [run_store P w _ v _ hv] at h
      obtain ⟨u, hu⟩ := Option.isSome_iff_exists.1 h0
      rw [hu] at h
      simp only at h
      split at h
      · cases h
      · simp only [Result.andThen_ok] at h
        have keep : ∀ p : Addr, (w.cell? p).isSome = true → ((w.setCell (q.add i) v).cell? p).isSome = true := fun p hp => by
          by_cases hpq : q.add i = p
          · subst hpq
            rw [World.cell?_setCell_same _ _ _ hu]; rfl
          · rw [World.cell?_setCell_other _ _ _ _ hpq]; exact hp
        obtain ⟨h1, h2⟩ := ih q (i + 1) _ w' hq (fun j hj => by
          have := hs (j + 1) (by simp; omega)
          rw [show i + 1 + j = i + (j + 1) by omega]
          exact keep _ this) h
        refine ⟨fun p hp => ?_, fun p hp => h2 p (keep p hp)⟩
        rw [h1 p (fun j hj => by have := hp (j + 1) (by simp; omega); rwa [show i + 1 + j = i + (j + 1) by omega])]
        exact World.cell?_setCell_other _ _ _ _ (fun e => hp 0 (by simp) (by rw [Nat.add_zero]; exact e.symm))

end Go.Proofs.YtedemfmafdilmaaDoor.Ev
