/- Structs and arrays of numbers, texts and bools are told apart as the model tells them. Conditions: none. -/
import Derived.Test.YtedemfmafdilmaaDoorEvG
namespace Go.Proofs.YtedemfmafdilmaaDoor.Ev

variable {P : Program} {N G n : Nat} {ρ : Nat → Place}
variable {dst : Option Nat} {ty : TypeId} {pos : String} {after : Array Edge} {guard : Option (Nat × Bool)}

theorem eqL_append : ∀ (a b : List (Nat × Value × Value)) (r : Bool), eqL (a ++ b) = some r → (eqL a = some true ∧ eqL b = some r) ∨ (eqL a = some false ∧ r = false) := by
  intro a
  induction a with
  | nil => intro b r h; exact .inl ⟨rfl, h⟩
  | cons x a ih =>
    intro b r h
    obtain ⟨t, x, y⟩ := x
    simp only [List.cons_append, eqL] at h ⊢
    split at h
    · exact ih b r h
    · cases h; exact .inr ⟨rfl, rfl⟩
    · cases h

/-- The part of a type at a place. -/
def partV (P : Program) (t : TypeId) (xs : Array Value) (off : Nat) : Value :=
  match aggT P t, szOf P t with
  | some true, some n => .agg (xs.extract off (off + n))
  | _, _ => xs.toList.getD off undef

def itemsOf (xs ys : Array Value) (l : List (Nat × Nat)) : List (Nat × Value × Value) := l.map fun f => (f.2, xs.toList.getD f.1 undef, ys.toList.getD f.1 undef)

theorem beq_bytes (a b : ByteArray) : (a == b) = (a.data.toList == b.data.toList) := by
  have e : (a == b) = (a.data == b.data) := rfl
  rw [e, Bool.eq_iff_iff, beq_iff_eq, beq_iff_eq, Array.toList_inj]

def EqAt (P : Program) (d : Nat) (t : TypeId) (off : Nat) (l : List (Nat × Nat)) : Prop :=
  ∀ (d' : Nat) (xs ys : Array Value) (r : Bool) (w : World), eqL (itemsOf xs ys l) = some r → (Op.equalIn (d' + d) t (partV P t xs off) (partV P t ys off)).run P w = .ok r w

theorem itemsOf_append (xs ys : Array Value) (a b : List (Nat × Nat)) : itemsOf xs ys (a ++ b) = itemsOf xs ys a ++ itemsOf xs ys b := by simp [itemsOf]

theorem eqL_one {t : Nat} {x y : Value} {r : Bool} (h : eqL [(t, x, y)] = some r) : eqT1 t x y = some r := by
  simp only [eqL] at h
  split at h
  · rename_i hq; rw [hq]; exact h
  · rename_i hq; rw [hq]; exact h
  · cases h

/-- A part of a part. -/
theorem run_part {t : TypeId} {s sz off fo : Nat} {xs : Array Value} (hs : szOf P t = some s) (h0 : s ≠ 0) (hle : fo + s ≤ sz) (b : Bool) (hb : aggT P t = some b) (hin : b = false → off + fo < xs.size) (w : World) :
    (part t (xs.extract off (off + sz)) fo).run P w = .ok (partV P t xs (off + fo)) w := by
  unfold part partV
  simp only [Sem.run_bind, run_agg hb, Result.andThen_ok, hb, hs]
  cases b with
  | true =>
    simp only [if_true, Sem.run_bind, run_size hs, Result.andThen_ok, Sem.run_pure]
    rw [Array.extract_extract]
    congr 3
    · omega
  | false =>
    have := hin rfl
    have e1 : (xs.extract off (off + sz))[fo]? = some xs[off + fo] := by
      rw [Array.getElem?_extract]
      rw [if_pos (by omega)]
      simp [this]
    simp [e1, this]

theorem agg_of_flat {d : Nat} {t : TypeId} {off : Nat} {l : List (Nat × Nat)} (h : flatOf P d t off = some l) : ∃ b, aggT P t = some b ∧ (b = false → ∃ tag, l = [(off, tag)]) := by
  cases d with
  | zero => cases h
  | succ d =>
    simp only [flatOf] at h
    unfold aggT
    split at h
    · rename_i hu; rw [hu]; cases h; exact ⟨false, rfl, fun _ => ⟨_, rfl⟩⟩
    · rename_i hu; rw [hu]; cases h; exact ⟨false, rfl, fun _ => ⟨_, rfl⟩⟩
    · rename_i hu; rw [hu]; cases h; exact ⟨false, rfl, fun _ => ⟨_, rfl⟩⟩
    · rename_i hu; rw [hu]; exact ⟨true, rfl, fun h => by cases h⟩
    · rename_i hu; rw [hu]; exact ⟨true, rfl, fun h => by cases h⟩
    · cases h

theorem in_of_eqT1 {tag o : Nat} {xs ys : Array Value} {r : Bool} (h : eqL (itemsOf xs ys [(o, tag)]) = some r) : o < xs.size ∧ o < ys.size := by
  have h := eqL_one h
  have un : ∀ x, eqT1 tag undef x = none := fun x => by rcases tag with _ | _ | _ | tag <;> rfl
  have un2 : ∀ x, eqT1 tag x undef = none := fun x => by rcases tag with _ | _ | _ | tag <;> cases x <;> rfl
  constructor
  · rcases Nat.lt_or_ge o xs.size with h1 | h1
    · exact h1
    · rw [List.getD_eq_getElem?_getD, List.getElem?_eq_none (by simpa using h1)] at h
      simp [un] at h
  · rcases Nat.lt_or_ge o ys.size with h1 | h1
    · exact h1
    · rw [List.getD_eq_getElem?_getD (l := ys.toList), List.getElem?_eq_none (by simpa using h1)] at h
      simp [un2] at h

theorem flat_fields {d sz off : Nat} (ih : ∀ (t : TypeId) (o : Nat) (l : List (Nat × Nat)), flatOf P d t o = some l → EqAt P d t o l) :
    ∀ (fs : List Field) (l : List (Nat × Nat)), flatFields (flatOf P d) P sz off fs = some l → ∀ (d' : Nat) (xs ys : Array Value) (r : Bool) (w : World), eqL (itemsOf xs ys l) = some r →
    (forIn fs ((none, ()) : Option Bool × Unit) (fun f _ =>
      if f.name = "_" then pure (ForInStep.yield (none, ()))
      else do
        let a ← part f.type (xs.extract off (off + sz)) f.offset
        let b ← part f.type (ys.extract off (off + sz)) f.offset
        let c ← Op.equalIn (d' + d) f.type a b
        if c = false then pure (ForInStep.done (some false, ())) else pure (ForInStep.yield (none, ()))) : Sem (Option Bool × Unit)).run P w = .ok (if r then (none, ()) else (some false, ())) w := by
  intro fs
  induction fs with
  | nil =>
    intro l h d' xs ys r w he
    simp only [flatFields] at h
    cases h
    simp only [itemsOf, List.map_nil, eqL] at he
    cases he
    rfl
  | cons f fs ihl =>
    intro l h d' xs ys r w he
    simp only [flatFields] at h
    split at h
    · rename_i s m hs hm
      split at h
      · cases h
      · rename_i hc
        split at h
        · rename_i fl hfl
          cases h
          have hn : ¬ f.name = "_" := fun e => hc (.inl e)
          have h0 : s ≠ 0 := fun e => hc (.inr (.inl e))
          have hle : f.offset + s ≤ sz := by
            rcases Nat.lt_or_ge sz (f.offset + s) with q | q
            · exact absurd (.inr (.inr (by omega))) hc
            · exact q
          obtain ⟨b, hb, hbl⟩ := agg_of_flat hfl
          rw [itemsOf_append] at he
          have hfirst : ∃ q, eqL (itemsOf xs ys fl) = some q := by
            rcases eqL_append _ _ _ he with ⟨h1, _⟩ | ⟨h1, _⟩ <;> exact ⟨_, h1⟩
          obtain ⟨q, hq⟩ := hfirst
          have hin : b = false → off + f.offset < xs.size ∧ off + f.offset < ys.size := fun hbf => by
            obtain ⟨tag, rfl⟩ := hbl hbf
            exact in_of_eqT1 hq
          have hrun := ih f.type (off + f.offset) fl hfl d' xs ys q w hq
          rw [List.forIn_cons]
          simp only [if_neg hn, Sem.run_bind, run_part hs h0 hle b hb (fun e => (hin e).1), run_part hs h0 hle b hb (fun e => (hin e).2), Result.andThen_ok, hrun]
          rcases eqL_append _ _ _ he with ⟨h1, h2⟩ | ⟨h1, rfl⟩
          · rw [hq] at h1; cases h1
            simpa using ihl m hm d' xs ys r w h2
          · rw [hq] at h1; cases h1
            simp
        · cases h
    · cases h

theorem flat_arr {d s n sz off : Nat} {el : TypeId} (hs : szOf P el = some s) (h0 : s ≠ 0) (hn : n * s ≤ sz) (ih : ∀ (t : TypeId) (o : Nat) (l : List (Nat × Nat)), flatOf P d t o = some l → EqAt P d t o l) :
    ∀ (is : List Nat), (∀ i ∈ is, i < n) → ∀ (l : List (Nat × Nat)), flatArr (flatOf P d el) s off is = some l → ∀ (d' : Nat) (xs ys : Array Value) (r : Bool) (w : World), eqL (itemsOf xs ys l) = some r →
    (forIn is ((none, ()) : Option Bool × Unit) (fun i _ => do
        let a ← part el (xs.extract off (off + sz)) (i * s)
        let b ← part el (ys.extract off (off + sz)) (i * s)
        let c ← Op.equalIn (d' + d) el a b
        if c = false then pure (ForInStep.done (some false, ())) else pure (ForInStep.yield (none, ()))) : Sem (Option Bool × Unit)).run P w = .ok (if r then (none, ()) else (some false, ())) w := by
  intro is
  induction is with
  | nil =>
    intro _ l h d' xs ys r w he
    simp only [flatArr] at h
    cases h
    simp only [itemsOf, List.map_nil, eqL] at he
    cases he
    rfl
  | cons i is ihl =>
    intro hi l h d' xs ys r w he
    simp only [flatArr] at h
    split at h
    · rename_i fl m hfl hm
      cases h
      have hlt := hi i (by simp)
      have hle : i * s + s ≤ sz := by
        have : (i + 1) * s ≤ n * s := Nat.mul_le_mul_right s hlt
        rw [Nat.add_mul] at this
        omega
      obtain ⟨b, hb, hbl⟩ := agg_of_flat hfl
      rw [itemsOf_append] at he
      have hfirst : ∃ q, eqL (itemsOf xs ys fl) = some q := by
        rcases eqL_append _ _ _ he with ⟨h1, _⟩ | ⟨h1, _⟩ <;> exact ⟨_, h1⟩
      obtain ⟨q, hq⟩ := hfirst
      have hin : b = false → off + i * s < xs.size ∧ off + i * s < ys.size := fun hbf => by
        obtain ⟨tag, rfl⟩ := hbl hbf
        exact in_of_eqT1 hq
      have hrun := ih el (off + i * s) fl hfl d' xs ys q w hq
      rw [List.forIn_cons]
      simp only [Sem.run_bind, run_part hs h0 hle b hb (fun e => (hin e).1), run_part hs h0 hle b hb (fun e => (hin e).2), Result.andThen_ok, hrun]
      rcases eqL_append _ _ _ he with ⟨h1, h2⟩ | ⟨h1, rfl⟩
      · rw [hq] at h1; cases h1
        simpa using ihl (fun j hj => hi j (by simp [hj])) m hm d' xs ys r w h2
      · rw [hq] at h1; cases h1
        simp
    · cases h

theorem flat_eq : ∀ (d : Nat) (t : TypeId) (off : Nat) (l : List (Nat × Nat)), flatOf P d t off = some l → EqAt P d t off l := by
  intro d
  induction d with
  | zero => intro t off l h; cases h
  | succ d ih =>
    intro t off l h d' xs ys r w he
    have h' := h
    simp only [flatOf] at h
    rw [show d' + (d + 1) = (d' + d) + 1 by omega]
    split at h
    · rename_i hu
      cases h
      have := eqL_one he
      simp only [partV, aggT, hu]
      unfold eqT1 at this
      split at this
      · rename_i a b ha hb
        rw [ha, hb]
        injection this with this; subst this
        exact equalIn_bool hu w
      · rename_i h1 _ _; cases h1
      · rename_i h1 _ _; cases h1
      · cases this
    · rename_i k hu
      cases h
      have := eqL_one he
      simp only [partV, aggT, hu]
      unfold eqT1 at this
      split at this
      · rename_i h1 _ _; cases h1
      · rename_i k1 a k2 b _ ha hb
        rw [ha, hb]
        split at this
        · rename_i hk
          subst hk
          injection this with this; subst this
          simp only [Op.equalIn, Sem.run_bind, run_und hu, Result.andThen_ok]
          simp
        · cases this
      · rename_i h1 _ _; cases h1
      · cases this
    · rename_i hu
      cases h
      have := eqL_one he
      simp only [partV, aggT, hu]
      unfold eqT1 at this
      split at this
      · rename_i h1 _ _; cases h1
      · rename_i h1 _ _; cases h1
      · rename_i a b _ ha hb
        rw [ha, hb]
        injection this with this; subst this
        simp only [Op.equalIn, Sem.run_bind, run_und hu, Result.andThen_ok]
        simp [beq_bytes]
      · cases this
    · rename_i fs hu
      split at h
      · cases h
      · rename_i hst
        split at h
        · rename_i sz hsz
          have hrun := flat_fields ih fs.toList l h d' xs ys r w he
          simp only [partV, aggT, hu, hsz]
          simp only [Op.equalIn, Sem.run_bind, run_und hu, Result.andThen_ok, run_program, hst]
          simp only [Bool.false_eq_true, if_false]
          rw [← Array.forIn_toList]
          simp only [ne_eq, ite_not, Bool.not_eq_eq_eq_not, Bool.not_true, Sem.run_bind]
          rw [hrun]
          cases r <;> rfl
        · cases h
    · rename_i m el hu
      split at h
      · rename_i s sz hs hsz
        split at h
        · rename_i hc
          have hrun := flat_arr hs hc.2 hc.1 ih (List.range' 0 m) (by simp) l h d' xs ys r w he
          simp only [partV, aggT, hu, hsz]
          simp only [Op.equalIn, Sem.run_bind, run_und hu, Result.andThen_ok, run_size hs]
          simp only [Std.Legacy.Range.forIn_eq_forIn_range', Std.Legacy.Range.size, Nat.sub_zero, Nat.add_sub_cancel, Nat.div_one, Bool.not_eq_eq_eq_not, Bool.not_true]
          rw [hrun]
          cases r <;> rfl
        · cases h
      · cases h
    · cases h

theorem eqT1_same {t : Nat} {x y x' y' : Value} {r : Bool} (h : eqT1 t x y = some r) (hx : VR n ρ x x') (hy : VR n ρ y y') : eqT1 t x' y' = some r := by
  unfold eqT1 at h
  split at h
  · rw [hx.inv_bool, hy.inv_bool]; exact h
  · rw [hx.inv_int, hy.inv_int]; exact h
  · rw [hx.inv_string, hy.inv_string]; exact h
  · cases h

theorem VL.getD {xs ys : List Value} (h : VL n ρ xs ys) (i : Nat) : VR n ρ (xs.getD i undef) (ys.getD i undef) := by
  rw [List.getD_eq_getElem?_getD, List.getD_eq_getElem?_getD]
  rcases Nat.lt_or_ge i xs.length with hi | hi
  · have hj : i < ys.length := by rw [← h.1]; exact hi
    rw [List.getElem?_eq_getElem hi, List.getElem?_eq_getElem hj]
    exact h.2 i _ _ (List.getElem?_eq_getElem hi) (List.getElem?_eq_getElem hj)
  · rw [List.getElem?_eq_none hi, List.getElem?_eq_none (by rw [← h.1]; exact hi)]
    exact .undef

theorem eqL_same {xs ys xs' ys' : Array Value} (hx : VL n ρ xs.toList xs'.toList) (hy : VL n ρ ys.toList ys'.toList) : ∀ (l : List (Nat × Nat)) (r : Bool), eqL (itemsOf xs ys l) = some r → eqL (itemsOf xs' ys' l) = some r := by
  intro l
  induction l with
  | nil => intro r h; exact h
  | cons f l ih =>
    intro r h
    simp only [itemsOf, List.map_cons, eqL] at h ⊢
    split at h
    · rename_i hq; rw [eqT1_same hq (hx.getD _) (hy.getD _)]; exact ih r h
    · rename_i hq; rw [eqT1_same hq (hx.getD _) (hy.getD _)]; exact h
    · cases h

theorem pure_eqs {op : BinOp} {t yt : TypeId} {l : List (Nat × Nat)} {sz : Nat} {x y : Operand} (hx : okO N G x = true) (hy : okO N G y = true) (hfl : fitsFlat P t = some l) (hsz : szOf P t = some sz)
    (hagg : aggT P t = some true) (hop : op = .eql ∨ op = .neq) : PureOK P N G n ρ ⟨dst, .binOp op t x y yt, ty, pos, after, guard⟩ (.eqs (isNeq op) sz l x y) := by
  intro e a H H' v hf h
  have h1 := hf.op hx
  have h2 := hf.op hy
  simp only [aop] at h
  split at h
  · rename_i xs ys hxs hys
    split at h
    · cases h
    · rename_i hlen
      obtain ⟨h3, rfl⟩ := ofO_val h
      obtain ⟨b, hb, rfl⟩ := Option.map_eq_some_iff.1 h3
      rw [hxs] at h1; rw [hys] at h2
      obtain ⟨xs', hv1, hl1⟩ := h1.inv_agg
      obtain ⟨ys', hv2, hl2⟩ := h2.inv_agg
      refine ⟨rfl, _, .bool _, fun w => ?_⟩
      unfold fitsFlat at hfl
      split at hfl
      · cases hfl
      · rename_i hg
        have he := flat_eq (P := P) 12 t 0 l hfl 9988 xs' ys' b w (eqL_same hl1 hl2 l b hb)
        have s1 : xs'.size = sz := by have := hl1.1; simp only [Array.length_toList] at this hlen; omega
        have s2 : ys'.size = sz := by have := hl2.1; simp only [Array.length_toList] at this hlen; omega
        have p1 : partV P t xs' 0 = .agg xs' := by simp [partV, hagg, hsz, ← s1]
        have p2 : partV P t ys' 0 = .agg ys' := by simp [partV, hagg, hsz, ← s2]
        rw [p1, p2] at he
        have he' : (Op.equal t (.agg xs') (.agg ys')).run P w = .ok b w := he
        have hguard : (eqGuard op t x y (.agg xs') (.agg ys')).run P w = .ok () w := by
          rcases hop with rfl | rfl <;> simp [eqGuard, hg]
        simp only [execOp, Sem.run_bind, hv1, hv2, hguard, Result.andThen_ok]
        rcases hop with rfl | rfl <;> simp [binOp, he', isNeq]
  · cases h

end Go.Proofs.YtedemfmafdilmaaDoor.Ev
