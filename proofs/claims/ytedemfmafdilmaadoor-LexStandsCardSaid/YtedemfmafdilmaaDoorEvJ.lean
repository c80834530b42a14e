/- The evaluator's operations that make memory. Conditions: none. -/
import Derived.Test.YtedemfmafdilmaaDoorEvI
namespace Go.Proofs.YtedemfmafdilmaaDoor.Ev

variable {P : Program} {N G n : Nat} {ρ : Nat → Place}
variable {dst : Option Nat} {ty : TypeId} {pos : String} {after : Array Edge} {guard : Option (Nat × Bool)}

theorem Rel.congr {H : Heap} {w w' : World} (h : Rel G ρ H w) (hh : w'.heap = w.heap) : Rel G ρ H w' := by
  refine ⟨fun b o hb => ?_, h.inj, h.glob, h.many⟩
  exact (h.obj b o hb).mono (Nat.le_refl _) rfl (fun _ _ => rfl) (fun _ => by rw [hh])

/-- A world in which nothing but the count of draws is another. -/
theorem Step.drawn {H : Heap} {w w' : World} (h : Rel G ρ H w) (hh : w'.heap = w.heap) (h1 : w'.os = w.os) (h2 : w'.tape = w.tape) (h3 : w'.output = w.output) : Step G ρ H w ρ H w' :=
  ⟨h.congr hh, Nat.le_refl _, fun _ _ => rfl, h1, h2, h3, by rw [hh]; exact Nat.le_refl _, fun c _ _ => by rw [hh], fun c hc => .inl hc⟩

theorem Step.kill {H : Heap} {w : World} (hr : Rel G ρ H w) (b : Nat) : Step G ρ H w ρ (H.set b .dead) w := by
  have cases_ : ∀ c u, (H.set b .dead)[c]? = some u → u = AObj.dead ∨ H[c]? = some u := fun c u h => by
    rw [List.getElem?_set] at h
    split at h
    · split at h
      · cases h; exact .inl rfl
      · cases h
    · exact .inr h
  refine ⟨⟨fun c u hu => ?_, fun c d u v hu hv hne hw hl => ?_, hr.glob, by simpa using hr.many⟩, by simp, fun _ _ => rfl, rfl, rfl, rfl, Nat.le_refl _, fun _ _ _ => rfl, fun c hc => ?_⟩
  · rw [List.length_set]
    rcases cases_ c u hu with rfl | h
    · trivial
    · exact hr.obj c u h
  · rcases cases_ c u hu with rfl | h1
    · cases hw
    · rcases cases_ d v hv with rfl | h2
      · cases hl
      · exact hr.inj c d u v h1 h2 hne hw hl
  · obtain ⟨d, u, hu, hw, rfl⟩ := hc
    rcases cases_ d u hu with rfl | h1
    · cases hw
    · exact .inl ⟨d, u, h1, hw, rfl⟩

/-- A new block that takes over the memory of one that is given up. -/
theorem Step.take {H : Heap} {w w' : World} {b : Nat} {o x : AObj} (hr : Rel G ρ H w) (hb : H[b]? = some o) (hw : o.wrt = true) (p : Place) (hp : p.blk = (ρ b).blk)
    (hs : w'.heap.size = w.heap.size) (hh : ∀ c, c ≠ (ρ b).blk → w'.heap[c]? = w.heap[c]?) (h1 : w'.os = w.os) (h2 : w'.tape = w.tape) (h3 : w'.output = w.output)
    (ho : OR (H.length + 1) (ext ρ H.length p) w' H.length x) : Step G ρ H w (ext ρ H.length p) (H.set b .dead ++ [x]) w' := by
  have hlt : b < H.length := (List.getElem?_eq_some_iff.1 hb).1
  have cases_ : ∀ c u, (H.set b .dead ++ [x])[c]? = some u → u = AObj.dead ∨ (c < H.length ∧ c ≠ b ∧ H[c]? = some u) ∨ (c = H.length ∧ u = x) := fun c u h => by
    by_cases hc : c < H.length
    · rw [List.getElem?_append_left (by simpa using hc), List.getElem?_set] at h
      split at h
      · (try rw [if_pos hlt] at h)
        cases h; exact .inl rfl
      · rename_i hne
        exact .inr (.inl ⟨hc, fun e => hne e.symm, h⟩)
    · rw [List.getElem?_append_right (by simpa using hc)] at h
      obtain ⟨q1, q2⟩ := List.getElem?_eq_some_iff.1 h
      simp at q1
      have : c = H.length := by omega
      subst this
      simp at q2
      exact .inr (.inr ⟨rfl, q2.symm⟩)
  refine ⟨⟨fun c u hu => ?_, fun c d u v hu hv hne hwr hl => ?_, fun g hg => ?_, by simp; have := hr.many; omega⟩, by simp, fun c hc => ext_lt hc, h1, h2, h3, by omega, fun c hc hn => ?_, fun c hc => ?_⟩
  · rw [show (H.set b .dead ++ [x]).length = H.length + 1 by simp]
    rcases cases_ c u hu with rfl | ⟨hc, hcb, hu2⟩ | ⟨rfl, rfl⟩
    · trivial
    · exact (hr.obj c u hu2).mono (by omega) (ext_lt hc) (fun d hd => ext_lt hd) (fun hl => hh _ (fun e => hr.inj b c o u hb hu2 (fun e => hcb e.symm) hw hl e.symm))
    · exact ho
  · rcases cases_ c u hu with rfl | ⟨hc, hcb, hu2⟩ | ⟨rfl, rfl⟩
    · cases hwr
    · rcases cases_ d v hv with rfl | ⟨hd, hdb, hv2⟩ | ⟨rfl, rfl⟩
      · cases hl
      · rw [ext_lt hc, ext_lt hd]; exact hr.inj c d u v hu2 hv2 hne hwr hl
      · rw [ext_lt hc, ext_same, hp]; exact hr.inj c b u o hu2 hb hcb hwr (live_of_wrt hw)
    · rcases cases_ d v hv with rfl | ⟨hd, hdb, hv2⟩ | ⟨rfl, rfl⟩
      · cases hl
      · rw [ext_lt hd, ext_same, hp]; exact hr.inj b d o v hb hv2 (fun e => hdb e.symm) hw hl
      · exact absurd rfl hne
  · rw [ext_lt (Nat.lt_of_lt_of_le hg hr.many)]; exact hr.glob g hg
  · exact hh c (fun e => hn ⟨b, o, hb, hw, e.symm⟩)
  · obtain ⟨d, u, hu, hwr, rfl⟩ := hc
    rcases cases_ d u hu with rfl | ⟨hd, hdb, hu2⟩ | ⟨rfl, rfl⟩
    · cases hwr
    · rw [ext_lt hd]; exact .inl ⟨d, u, hu2, hwr, rfl⟩
    · rw [ext_same, hp]; exact .inl ⟨b, o, hb, hw, rfl⟩

/-- A new row. -/
theorem new_row {H : Heap} {w : World} (hr : Rel G ρ H w) (cs : List Value) (arr : Array Value) (t : TypeId) (fr : Nat × Nat) (u e : Nat) (hv : VL H.length ρ cs (arr.toList.take cs.length))
    (hs : cs.length + e * u ≤ arr.size) (hf : ∀ i, i < arr.size → ¬ (fr.1 ≤ i ∧ i < fr.2)) (hu : u = 0 → fr = (0, 0)) :
    Step G ρ H w (ext ρ H.length ⟨w.heap.size, 0, e⟩) (H ++ [.row cs u true]) { w with heap := w.heap.push (.cells arr t fr) } := by
  refine Step.new hr _ _ e ?_
  refine ⟨arr, t, fr, by simp [ext_same], fun i v hi => ?_, fun _ => ⟨by simpa [ext_same] using hs, hf, hu⟩⟩
  obtain ⟨v', hv', hvr⟩ := hv.get hi
  refine ⟨v', ?_, hvr.mono (by omega) (fun b hb => ext_lt hb)⟩
  rw [List.getElem?_take] at hv'
  split at hv'
  · simpa [ext_same] using hv'
  · cases hv'

theorem ptr_new {H : Heap} {x : AObj} (k e : Nat) : VR (H ++ [x]).length (ext ρ H.length ⟨k, 0, e⟩) (.pointer (some ⟨H.length, 0, none⟩)) (.pointer (some ⟨k, 0, none⟩)) := by
  have := VR.ptr (n := (H ++ [x]).length) (ρ := ext ρ H.length ⟨k, 0, e⟩) H.length 0 (by simp)
  simpa [ext_same] using this

theorem sl_new {H : Heap} {x : AObj} (k e l c : Nat) (h : l ≤ c) : VR (H ++ [x]).length (ext ρ H.length ⟨k, 0, e⟩) (.slice (some ⟨H.length, 0, none⟩) l c) (.slice (some ⟨k, 0, none⟩) l (c + e)) := by
  have := VR.sl (n := (H ++ [x]).length) (ρ := ext ρ H.length ⟨k, 0, e⟩) H.length 0 l c (c + e) (by simp) h (by omega) (by simp [ext_same])
  simpa [ext_same] using this

theorem heap_alloc {t : TypeId} {z : List Value} (hz : zeroOf P t = some z) : HeapOK P N G ⟨dst, .alloc t, ty, pos, after, guard⟩ (.alloc z) := by
  refine HeapOK.of_val (fun e H => .inl ⟨_, _, rfl⟩) fun e a H ρ w hr hf v H' h => ?_
  simp only [aop, ARes.val.injEq] at h
  obtain ⟨rfl, rfl⟩ := h
  obtain ⟨zv, hrun, hzc, _, _⟩ := run_zero hz
  refine ⟨_, .pointer (some ⟨w.heap.size, 0, none⟩), _, ?_, new_row hr z zv.cells t (0, 0) 0 0 ?_ ?_ (by simp) (by simp), ptr_new _ _⟩
  · simp [execOp, Instr.alloc, hrun, newVar, newRow]
  · rw [hzc]; simpa using VL.closed (zero_closed hz)
  · have : z.length = zv.cells.size := by rw [← hzc]; simp
    omega

theorem heap_box {t : TypeId} {x : Operand} (hx : okO N G x = true) : HeapOK P N G ⟨dst, .box t x, ty, pos, after, guard⟩ (.box x) := by
  refine HeapOK.of_val (fun e H => .inl ⟨_, _, rfl⟩) fun e a H ρ w hr hf v H' h => ?_
  simp only [aop, ARes.val.injEq] at h
  obtain ⟨rfl, rfl⟩ := h
  have h1 := (hf.op hx).cells
  have hl : (cellsOf (aev e x)).length = (a.eval x).cells.size := by have := h1.1; simpa using this
  refine ⟨_, .pointer (some ⟨w.heap.size, 0, none⟩), _, ?_, new_row hr _ (a.eval x).cells t (0, 0) 0 0 ?_ (by omega) (by simp) (by simp), ptr_new _ _⟩
  · simp [execOp, Instr.box, newVar, newRow]
  · rw [hl, ← Array.length_toList, List.take_length]; exact h1

theorem flatten_get (z : List Value) : ∀ (c i : Nat), i < c * z.length → ((List.replicate c z).flatten)[i]? = z[i % z.length]? := by
  intro c
  induction c with
  | zero => intro i h; simp at h
  | succ c ih =>
    intro i h
    rw [List.replicate_succ, List.flatten_cons]
    by_cases hi : i < z.length
    · rw [List.getElem?_append_left hi, Nat.mod_eq_of_lt hi]
    · rw [List.getElem?_append_right (by omega), ih (i - z.length) (by rw [Nat.add_mul] at h; omega)]
      rw [Nat.mod_eq_sub_mod (a := i) (by omega)]

theorem zeros_eq (z : Array Value) (c s : Nat) (hs : z.size = s) (h0 : 0 < s) : ((Array.range (c * s)).map (fun i => z[i % z.size]!)).toList = (List.replicate c z.toList).flatten := by
  apply List.ext_getElem?
  intro i
  by_cases hi : i < c * s
  · rw [flatten_get _ _ _ (by simpa [hs] using hi)]
    have hm : i % s < z.size := by rw [hs]; exact Nat.mod_lt _ h0
    rw [List.getElem?_eq_getElem (l := z.toList) (by simpa [hs] using hm)]
    simp [hi, hs, getElem!_pos z (i % s) hm]
  · rw [List.getElem?_eq_none (by simp; omega), List.getElem?_eq_none (by simp [hs]; omega)]

theorem heap_buildSlice {t el : TypeId} {s len : Nat} {z cells : List Value} {parts : Array (Nat × Operand)} {ps : List (Nat × Nat × Operand)} (hu : P.underlying t = some (.slice el)) (hs : szOf P el = some s) (hz : zeroOf P el = some z)
    (h0 : 0 < s) (hlen : len * s ≤ 65536) (hzl : len = 0 ∨ z.length = s) (hc : cells = (List.replicate len z).flatten) (hp : partsOf P N G (fun i => some (i * s, s)) parts.toList = some ps) :
    HeapOK P N G ⟨dst, .buildSlice t len parts, ty, pos, after, guard⟩ (.buildSlice s len cells ps) := by
  refine HeapOK.of_val (fun e H => ?_) fun e a H ρ w hr hf v H' h => ?_
  · simp only [aop]; (repeat' split) <;> first | exact .inr rfl | exact .inl ⟨_, _, rfl⟩
  · simp only [aop] at h
    split at h
    · rename_i cs hcs
      simp only [ARes.val.injEq] at h
      obtain ⟨rfl, rfl⟩ := h
      obtain ⟨zv, hrun, hzc, _, _⟩ := run_zero hz
      have hzrl : ((Array.range (len * s)).map (fun i => (if len = 0 then #[] else zv.cells)[i % (if len = 0 then #[] else zv.cells).size]!)).toList = cells := by
        by_cases hl : len = 0
        · subst hl; simp [hc]
        · have hsz : zv.cells.size = s := by rw [← Array.length_toList, hzc]; exact hzl.resolve_left hl
          rw [if_neg hl, zeros_eq _ _ _ hsz h0, hzc, hc]
      have hcl : ∀ x ∈ cells, closedV x = true := fun x hx => by
        rw [hc] at hx
        obtain ⟨l, hl, hxl⟩ := List.mem_flatten.1 hx
        rw [(List.mem_replicate.1 hl).2] at hxl
        exact zero_closed hz x hxl
      obtain ⟨out, hout, hvl⟩ := fill_sound (cs' := (Array.range (len * s)).map (fun i => (if len = 0 then #[] else zv.cells)[i % (if len = 0 then #[] else zv.cells).size]!)) parts.toList hp hf.er hf.many hf.glob (by rw [hzrl]; exact VL.closed hcl) hcs
      have hol : cs.length = out.size := by have := hvl.1; simpa using this
      refine ⟨_, .slice (some ⟨w.heap.size, 0, none⟩) len (len + 0), _, ?_, new_row hr cs out el (0, 0) s 0 ?_ (by omega) (by simp) (fun h => by omega), sl_new _ _ _ _ (Nat.le_refl _)⟩
      · simp only [execOp, Instr.buildSlice, Sem.run_bind, run_und hu, Result.andThen_ok, run_size hs]
        rw [if_neg (by omega)]
        rw [show (Array.map (fun x => match x with | (i, x) => (i, a.eval x)) parts).toList = parts.toList.map fun p => (p.1, a.eval p.2) by simp]
        by_cases hl : len = 0
        · subst hl
          simp only [Nat.zero_mul, if_true, Sem.run_bind, Sem.run_pure, Result.andThen_ok] at hout ⊢
          rw [hout]
          simp [newRow]
        · rw [if_neg (by have := Nat.mul_pos (Nat.pos_of_ne_zero hl) h0; omega)]
          simp only [if_neg hl, Sem.run_bind, hrun, Sem.run_pure, Result.andThen_ok] at hout ⊢
          rw [hout]
          simp [newRow]
      · rw [hol, ← Array.length_toList, List.take_length]; exact hvl
    · cases h

theorem wrap_i64 {j : Int} (h0 : 0 ≤ j) (h1 : j < 9223372036854775808) : IntKind.i64.wrap j = j := by
  have e : IntKind.i64.wrap j = (if (decide (j % 18446744073709551616 ≥ 9223372036854775808)) = true then j % 18446744073709551616 - 18446744073709551616 else j % 18446744073709551616) := rfl
  rw [e, Int.emod_eq_of_lt h0 (by omega)]
  rw [if_neg (by simp; omega)]

theorem heap_mkSlice {t el : TypeId} {s b : Nat} {z : List Value} {l c : Operand} (hl : okO N G l = true) (hc : okO N G c = true) (hu : P.underlying t = some (.slice el)) (hs : szOf P el = some s) (hb : bytesOfT P el = some b) (hz : zeroOf P el = some z)
    (h0 : 0 < s) (hzl : z.length = s) : HeapOK P N G ⟨dst, .makeSlice t l c, ty, pos, after, guard⟩ (.mkSlice s b z l c) := by
  refine HeapOK.of_val (fun e H => ?_) fun e a H ρ w hr hf v H' h => ?_
  · simp only [aop]; (repeat' split) <;> first | exact .inr rfl | exact .inl ⟨_, _, rfl⟩
  · have h1 := hf.op hl
    have h2 := hf.op hc
    simp only [aop] at h
    split at h
    · rename_i k i k' j hi hj
      rw [hi] at h1; rw [hj] at h2
      split at h
      · rename_i hcond
        obtain ⟨c1, c2, c3, c4⟩ := hcond
        simp only [ARes.val.injEq] at h
        obtain ⟨rfl, rfl⟩ := h
        obtain ⟨zv, hrun, hzc, _, _⟩ := run_zero hz
        obtain ⟨inf, hinf, hib, hirun⟩ := run_bytes (w := w) hb
        obtain ⟨inf', hinf', hib', hirun'⟩ := run_bytes (w := w) hb
        have hsz : zv.cells.size = s := by rw [← Array.length_toList, hzc]; exact hzl
        have hj0 : 0 ≤ j := by omega
        have hjw : IntKind.i64.wrap j = j := by
          simp only [roomMax] at c4
          exact wrap_i64 (by omega) (by omega)
        have hiw : IntKind.i64.wrap i = i := by
          simp only [roomMax] at c4
          exact wrap_i64 (by omega) (by omega)
        have hbj : (b : Int) * j ≤ 8796093022208 := by
          have e1 : ((j.toNat * b : Nat) : Int) ≤ 8796093022208 := by simp only [roomMax] at c3; omega
          have e2 : ((j.toNat * b : Nat) : Int) = b * j := by
            rw [Int.natCast_mul, Int.toNat_of_nonneg hj0, Int.mul_comm]
          omega
        have hlist : ((Array.range (j.toNat * s)).map (fun i => (if j.toNat * s = 0 then #[] else zv.cells)[i % (if j.toNat * s = 0 then #[] else zv.cells).size]!)).toList = (List.replicate j.toNat z).flatten := by
          by_cases hz0 : j.toNat * s = 0
          · have : j.toNat = 0 := by
              rcases Nat.mul_eq_zero.1 hz0 with h | h
              · exact h
              · omega
            simp [this]
          · rw [if_neg hz0, zeros_eq _ _ _ hsz h0, hzc]
        refine ⟨_, .slice (some ⟨w.heap.size, 0, none⟩) i.toNat (j.toNat + 0), _, ?_, new_row hr _ ((Array.range (j.toNat * s)).map (fun i => (if j.toNat * s = 0 then #[] else zv.cells)[i % (if j.toNat * s = 0 then #[] else zv.cells).size]!)) el (0, 0) s 0 ?_ ?_ (by simp) (fun h => by omega), sl_new _ _ _ _ (by omega)⟩
        · simp only [execOp, Instr.makeSlice, Sem.run_bind, run_und hu, Result.andThen_ok, h1.inv_int, h2.inv_int, asInt, asIntOf, Sem.run_pure, hirun, hjw, hiw, hib]
          rw [if_neg (by simp; omega)]
          simp only [Sem.run_bind, Result.andThen_ok, run_askRoom, run_size hs]
          by_cases hz0 : j.toNat * s = 0
          · simp only [if_pos hz0, Sem.run_bind, Sem.run_pure, Result.andThen_ok]
            simp [newRow]
          · simp only [if_neg hz0, Sem.run_bind, hrun, Sem.run_pure, Result.andThen_ok]
            simp [newRow]
        · rw [hlist, List.take_length]
          exact VL.closed fun x hx => by
            obtain ⟨q, hq, hxq⟩ := List.mem_flatten.1 hx
            rw [(List.mem_replicate.1 hq).2] at hxq
            exact zero_closed hz x hxq
        · rw [← hlist]; simp
      · cases h
    · cases h

end Go.Proofs.YtedemfmafdilmaaDoor.Ev
