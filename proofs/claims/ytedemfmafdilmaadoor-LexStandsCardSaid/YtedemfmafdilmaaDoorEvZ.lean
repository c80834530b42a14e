/- What a caller need not know of memory: blocks that nothing leads to are left out; a call over some blocks is one over more. Conditions: none. -/
import Derived.Test.YtedemfmafdilmaaDoorEvW
namespace Go.Proofs.YtedemfmafdilmaaDoor.Ev
open Go.RowKit
variable {T : Pg}

/-- All places of a value lie below n. -/
def Scoped (n : Nat) (v : Value) : Prop := ∃ ρ v', VR n ρ v v'

theorem VR.narrow {n n' : Nat} {ρ : Nat → Place} {v v' : Value} (h : VR n' ρ v v') (hs : Scoped n v) : VR n ρ v v' := by
  obtain ⟨ρ0, v0, h0⟩ := hs
  induction h generalizing v0 with
  | bool b => exact .bool b
  | int k x => exact .int k x
  | float k x => exact .float k x
  | string s => exact .string s
  | ptrNil => exact .ptrNil
  | ptr b o h => cases h0 with | ptr _ _ hb => exact .ptr b o hb
  | slNil => exact .slNil
  | sl b o l c c' h h1 h2 h3 => cases h0 with | sl _ _ _ _ _ hb _ _ _ => exact .sl b o l c c' hb h1 h2 h3
  | slE b o k a c' => exact .slE b o k a c'
  | mapNil => exact .mapNil
  | nilFunc => exact .nilFunc
  | nilIface => exact .nilIface
  | func fn f f' c c' hf hc h1 h2 i1 i2 =>
    cases h0 with
    | func _ _ g _ d hg hd k1 k2 =>
      exact .func fn f f' c c' hf hc (fun i a b => i1 i a b _ (k1 i a (by omega))) (fun i a b => i2 i a b _ (k2 i a (by omega)))
  | iface t v v' h ih => cases h0 with | iface _ _ v0 k => exact .iface t v v' (ih _ k)
  | agg c c' hc h ih => cases h0 with | agg _ d hd k => exact .agg c c' hc (fun i a b => ih i a b _ (k i a (by omega)))
  | tuple c c' hc h ih => cases h0 with | tuple _ d hd k => exact .tuple c c' hc (fun i a b => ih i a b _ (k i a (by omega)))

theorem Scoped.closed {n : Nat} {v : Value} (h : closedV v = true) : Scoped n v := ⟨fun _ => ⟨0, 0, 0⟩, v, .of_closed h⟩
theorem Scoped.int {n : Nat} {k : IntKind} {x : Int} : Scoped n (.int k x) := .closed rfl
theorem Scoped.bool {n : Nat} {b : Bool} : Scoped n (.bool b) := .closed rfl
theorem Scoped.string {n : Nat} {s : ByteArray} : Scoped n (.string s) := .closed rfl
theorem Scoped.ptrNil {n : Nat} : Scoped n (.pointer none) := .closed rfl
theorem Scoped.slNil {n : Nat} : Scoped n (.slice none 0 0) := .closed rfl
theorem Scoped.ptr {n b o : Nat} (h : b < n) : Scoped n (.pointer (some ⟨b, o, none⟩)) := ⟨fun b => ⟨b, 0, 0⟩, _, .ptr b o h⟩
theorem Scoped.sl {n b o l c : Nat} (h : b < n) (hl : l ≤ c) : Scoped n (.slice (some ⟨b, o, none⟩) l c) := ⟨fun b => ⟨b, 0, 0⟩, _, .sl b o l c c h hl (Nat.le_refl _) (by simp)⟩
theorem Scoped.undef {n : Nat} : Scoped n Go.undef := ⟨fun _ => ⟨0, 0, 0⟩, _, .undef⟩
theorem Scoped.mono {n m : Nat} {v : Value} (h : Scoped n v) (hm : n ≤ m) : Scoped m v := by
  obtain ⟨ρ, v', h⟩ := h
  exact ⟨ρ, v', h.mono hm fun _ _ => rfl⟩

theorem VR.with_place {n : Nat} {ρ : Nat → Place} {v v' : Value} (h : VR n ρ v v') (ρ' : Nat → Place) : ∃ v'', VR n ρ' v v'' := by
  induction h with
  | bool b => exact ⟨_, .bool b⟩
  | int k x => exact ⟨_, .int k x⟩
  | float k x => exact ⟨_, .float k x⟩
  | string s => exact ⟨_, .string s⟩
  | ptrNil => exact ⟨_, .ptrNil⟩
  | ptr b o h => exact ⟨_, .ptr b o h⟩
  | slNil => exact ⟨_, .slNil⟩
  | sl b o l c c' h h1 h2 h3 => exact ⟨_, .sl b o l c c h h1 (Nat.le_refl _) (by omega)⟩
  | slE b o k a c' => exact ⟨_, .slE b o k a c'⟩
  | mapNil => exact ⟨_, .mapNil⟩
  | nilFunc => exact ⟨_, .nilFunc⟩
  | nilIface => exact ⟨_, .nilIface⟩
  | func fn f f' c c' hf hc h1 h2 i1 i2 =>
    refine ⟨_, .func fn f (Array.ofFn fun i : Fin f.size => (i1 i i.2 (by omega)).choose) c (Array.ofFn fun i : Fin c.size => (i2 i i.2 (by omega)).choose) (by simp) (by simp) (fun i a b => ?_) (fun i a b => ?_)⟩
    · rw [Array.getElem_ofFn]; exact (i1 i a (by omega)).choose_spec
    · rw [Array.getElem_ofFn]; exact (i2 i a (by omega)).choose_spec
  | iface t v v' h ih => exact ⟨_, .iface t v _ ih.choose_spec⟩
  | agg c c' hc h ih =>
    refine ⟨_, .agg c (Array.ofFn fun i : Fin c.size => (ih i i.2 (by omega)).choose) (by simp) (fun i a b => ?_)⟩
    rw [Array.getElem_ofFn]; exact (ih i a (by omega)).choose_spec
  | tuple c c' hc h ih =>
    refine ⟨_, .tuple c (Array.ofFn fun i : Fin c.size => (ih i i.2 (by omega)).choose) (by simp) (fun i a b => ?_)⟩
    rw [Array.getElem_ofFn]; exact (ih i a (by omega)).choose_spec

theorem scoped_list {n : Nat} (ρ : Nat → Place) : ∀ l : List Value, (∀ v ∈ l, Scoped n v) → ∃ m, VL n ρ l m
  | [], _ => ⟨[], VL.nil⟩
  | v :: l, h => by
    obtain ⟨m, hm⟩ := scoped_list ρ l fun u hu => h u (by simp [hu])
    obtain ⟨ρ0, v0, h0⟩ := h v (by simp)
    obtain ⟨v1, h1⟩ := h0.with_place ρ
    exact ⟨v1 :: m, VL.cons h1 hm⟩
theorem Scoped.agg {n : Nat} {l : List Value} (h : ∀ v ∈ l, Scoped n v) : Scoped n (.agg l.toArray) := by
  obtain ⟨m, hm⟩ := scoped_list (fun _ => ⟨0, 0, 0⟩) l h
  exact ⟨_, _, hm.agg⟩
theorem Scoped.tuple {n : Nat} {l : List Value} (h : ∀ v ∈ l, Scoped n v) : Scoped n (.tuple l.toArray) := by
  obtain ⟨m, hm⟩ := scoped_list (fun _ => ⟨0, 0, 0⟩) l h
  exact ⟨_, _, hm.tuple⟩
theorem Scoped.tup2 {n : Nat} {a b : Value} (ha : Scoped n a) (hb : Scoped n b) : Scoped n (.tuple #[a, b]) := .tuple (l := [a, b]) (by intro u hu; simp at hu; rcases hu with rfl | rfl <;> assumption)
theorem Scoped.tup3 {n : Nat} {a b c : Value} (ha : Scoped n a) (hb : Scoped n b) (hc : Scoped n c) : Scoped n (.tuple #[a, b, c]) := .tuple (l := [a, b, c]) (by intro u hu; simp at hu; rcases hu with rfl | rfl | rfl <;> assumption)
theorem Scoped.func {n : Nat} {fn : Fn} {f c : List Value} (h1 : ∀ v ∈ f, Scoped n v) (h2 : ∀ v ∈ c, Scoped n v) : Scoped n (.func fn f.toArray c.toArray) := by
  obtain ⟨m, hm⟩ := scoped_list (fun _ => ⟨0, 0, 0⟩) f h1
  obtain ⟨k, hk⟩ := scoped_list (fun _ => ⟨0, 0, 0⟩) c h2
  refine ⟨fun _ => ⟨0, 0, 0⟩, .func fn m.toArray k.toArray, .func fn _ _ _ _ (by simpa using hm.1) (by simpa using hk.1) (fun i a b => hm.2 i _ _ (by simp [List.getElem?_eq_getElem (show i < f.length by simpa using a)]) (by simp [List.getElem?_eq_getElem (show i < m.length by simpa using b)])) (fun i a b => hk.2 i _ _ (by simp [List.getElem?_eq_getElem (show i < c.length by simpa using a)]) (by simp [List.getElem?_eq_getElem (show i < k.length by simpa using b)]))⟩

/-! ### A call's end, told otherwise -/

theorem WD.abs {f : FuncId} {args : List Value} {H : Heap} {R : FRes → Heap → Prop}
    (h : WD T f args H (fun r H1 => ∃ r2 H2, (∀ ρ w en w1, Rel T.G ρ H w → RetOK T.G ρ H w r H1 en w1 → RetOK T.G ρ H w r2 H2 en w1) ∧ R r2 H2)) : WD T f args H R := by
  intro ρ w args' hr ha
  rcases h ρ w args' hr ha with ⟨v', h1, r, H1, ⟨r2, H2, h2, h3⟩, h4⟩ | ⟨h1, h2⟩
  · exact .inl ⟨v', h1, r2, H2, h3, h2 _ _ _ _ hr h4⟩
  · exact .inr ⟨h1, h2.mono fun en w' ⟨r, H1, ⟨r2, H2, h3, h4⟩, h5⟩ => ⟨r2, H2, h4, h3 _ _ _ _ hr h5⟩⟩

/-- Blocks are kept: those below n, and behind them those with such numbers. -/
def sg (n : Nat) (ks : List Nat) : Nat → Nat := fun b => if b < n then b else n + ks.getD (b - n) 0

/-- A value with the kept blocks' numbers, and as it was. -/
def VS (n : Nat) (ks : List Nat) (v2 v1 : Value) : Prop := ∀ n' ρ v', n ≤ n' → VR n' ρ v1 v' → VR (n + ks.length) (fun b => ρ (sg n ks b)) v2 v'

theorem sg_lt {n b : Nat} {ks : List Nat} (h : b < n) : sg n ks b = b := if_pos h
theorem sg_ge {n i k : Nat} {ks : List Nat} (h : ks[i]? = some k) : sg n ks (n + i) = n + k := by
  unfold sg
  rw [if_neg (by omega), Nat.add_sub_cancel_left, List.getD_eq_getElem?_getD, h]
  rfl

theorem VS.old {n : Nat} {ks : List Nat} {v : Value} (h : Scoped n v) : VS n ks v v := fun n' ρ v' _ hv => (hv.narrow h).mono (by omega) fun b hb => by rw [sg_lt hb]
theorem VS.ptr {n : Nat} {ks : List Nat} {i k o : Nat} (h : ks[i]? = some k) : VS n ks (.pointer (some ⟨n + i, o, none⟩)) (.pointer (some ⟨n + k, o, none⟩)) := by
  intro n' ρ v' _ hv
  cases hv with
  | ptr _ _ hb =>
    rw [← sg_ge h]
    exact .ptr (ρ := fun b => ρ (sg n ks b)) (n + i) o (by have := (List.getElem?_eq_some_iff.1 h).1; omega)
theorem VS.sl {n : Nat} {ks : List Nat} {i k o l c : Nat} (h : ks[i]? = some k) : VS n ks (.slice (some ⟨n + i, o, none⟩) l c) (.slice (some ⟨n + k, o, none⟩) l c) := by
  intro n' ρ v' _ hv
  cases hv with
  | sl _ _ _ _ c' hb h0 h1 h2 =>
    rw [← sg_ge h] at h2 ⊢
    exact .sl (ρ := fun b => ρ (sg n ks b)) (n + i) o l c c' (by have := (List.getElem?_eq_some_iff.1 h).1; omega) h0 h1 h2

theorem VS.arrays {n : Nat} {ks : List Nat} {l2 l1 : List Value} (hl : l2.length = l1.length) (h : ∀ (i : Nat) (x y : Value), l2[i]? = some x → l1[i]? = some y → VS n ks x y) {n' : Nat} {ρ : Nat → Place} (hn : n ≤ n') {m : List Value} (hm : VL n' ρ l1 m) :
    VL (n + ks.length) (fun b => ρ (sg n ks b)) l2 m := by
  refine ⟨hl.trans hm.1, fun i x y hx hy => ?_⟩
  have h1 : i < l1.length := by rw [← hl]; exact (List.getElem?_eq_some_iff.1 hx).1
  exact h i x l1[i] hx (by simp [h1]) n' ρ y hn (hm.2 i _ y (by simp [h1]) hy)

theorem VS.agg {n : Nat} {ks : List Nat} {l2 l1 : List Value} (hl : l2.length = l1.length) (h : ∀ (i : Nat) (x y : Value), l2[i]? = some x → l1[i]? = some y → VS n ks x y) : VS n ks (.agg l2.toArray) (.agg l1.toArray) := by
  intro n' ρ v' hn hv
  cases hv with
  | agg _ c' hc hh => exact (VS.arrays hl h hn (m := c'.toList) (VL.of_arrays hc hh)).agg
theorem VS.tuple {n : Nat} {ks : List Nat} {l2 l1 : List Value} (hl : l2.length = l1.length) (h : ∀ (i : Nat) (x y : Value), l2[i]? = some x → l1[i]? = some y → VS n ks x y) : VS n ks (.tuple l2.toArray) (.tuple l1.toArray) := by
  intro n' ρ v' hn hv
  cases hv with
  | tuple _ c' hc hh => exact (VS.arrays hl h hn (m := c'.toList) (VL.of_arrays hc hh)).tuple
theorem VS.pair {n : Nat} {ks : List Nat} {a b c d : Value} (h1 : VS n ks a c) (h2 : VS n ks b d) : VS n ks (.tuple #[a, b]) (.tuple #[c, d]) := by
  refine VS.tuple (l2 := [a, b]) (l1 := [c, d]) rfl fun i x y hx hy => ?_
  match i, hx, hy with
  | 0, hx, hy => cases hx; cases hy; exact h1
  | 1, hx, hy => cases hx; cases hy; exact h2

/-- Blocks told otherwise. -/
def OS (n : Nat) (ks : List Nat) : AObj → AObj → Prop
  | .row c2 u wr, .row c1 u' wr' => u = u' ∧ wr = wr' ∧ c2.length = c1.length ∧ ∀ (i : Nat) (x y : Value), c2[i]? = some x → c1[i]? = some y → VS n ks x y
  | .iter s p, .iter s' p' => s = s' ∧ p = p'
  | .dead, _ => True
  | _, _ => False

def RS (n : Nat) (ks : List Nat) : FRes → FRes → Prop
  | .ret v2, .ret v1 => VS n ks v2 v1
  | .pan v2, .pan v1 => VS n ks v2 v1
  | _, _ => False

theorem OS.same {n : Nat} {ks : List Nat} {c : List Value} {u : Nat} {wr : Bool} (h : ∀ v ∈ c, Scoped n v) : OS n ks (.row c u wr) (.row c u wr) :=
  ⟨rfl, rfl, rfl, fun i x y hx hy => by rw [hx] at hy; cases hy; exact .old (h _ (List.mem_of_getElem? hx))⟩

theorem os_or {n n' : Nat} {ks : List Nat} {ρ : Nat → Place} {w : World} {b j : Nat} {o2 o1 : AObj} (hn : n ≤ n') (h : OS n ks o2 o1) (ho : OR n' ρ w b o1) (hj : sg n ks j = b) : OR (n + ks.length) (fun b => ρ (sg n ks b)) w j o2 := by
  cases o2 with
  | row c2 u wr =>
    cases o1 with
    | row c1 u1 wr1 =>
      obtain ⟨rfl, rfl, hl, hv⟩ := h
      obtain ⟨cells, t, fr, h1, h2, h3⟩ := ho
      subst hj
      refine ⟨cells, t, fr, h1, fun i v hi => ?_, fun hw => ?_⟩
      · have hi1 : i < c1.length := by rw [← hl]; exact (List.getElem?_eq_some_iff.1 hi).1
        obtain ⟨v', hv', hr⟩ := h2 i c1[i] (by simp [hi1])
        exact ⟨v', hv', hv i v c1[i] hi (by simp [hi1]) n' ρ v' hn hr⟩
      · rw [hl]; exact h3 hw
    | iter s p => exact h.elim
    | dead => exact h.elim
  | iter s p =>
    cases o1 with
    | row c1 u1 wr1 => exact h.elim
    | iter s1 p1 => obtain ⟨rfl, rfl⟩ := h; subst hj; exact ho
    | dead => exact h.elim
  | dead => trivial

theorem os_live {n : Nat} {ks : List Nat} {o2 o1 : AObj} (h : OS n ks o2 o1) (hl : o2.live = true) : o1.live = true := by
  cases o2 <;> cases o1 <;> first | rfl | exact h.elim | cases hl
theorem os_wrt {n : Nat} {ks : List Nat} {o2 o1 : AObj} (h : OS n ks o2 o1) (hl : o2.wrt = true) : o1.wrt = true := by
  cases o2 <;> cases o1 <;> first | rfl | exact h.elim | (cases hl; done) | (obtain ⟨_, rfl, _⟩ := h; exact hl)

theorem WD.gc {f : FuncId} {args : List Value} {H : Heap} {R : FRes → Heap → Prop}
    (h : WD T f args H (fun r H1 => ∃ (K g g2 : Heap) (ks : List Nat) (r2 : FRes), H1 = K ++ g ∧ K.length = H.length ∧
      (∀ (b : Nat) (o : AObj), K[b]? = some o → H[b]? = some o ∨ OS H.length ks o o) ∧ ks.length = g2.length ∧ ks.Nodup ∧
      (∀ (i k : Nat) (o2 : AObj), ks[i]? = some k → g2[i]? = some o2 → ∃ o1, g[k]? = some o1 ∧ OS H.length ks o2 o1) ∧ RS H.length ks r2 r ∧ R r2 (K ++ g2))) : WD T f args H R := by
  refine WD.abs (h.mono fun r H1 ⟨K, g, g2, ks, r2, hH1, hK, hold, hks, hnd, hnew, hres, hR⟩ => ⟨r2, K ++ g2, fun ρ w en w1 hr hret => ?_, hR⟩)
  subst hH1
  obtain ⟨ρ1, hs, hres1⟩ := hret
  have hlen1 : H.length ≤ (K ++ g).length := hs.len
  have hlen2 : (K ++ g2).length = H.length + ks.length := by simp [hK, hks]
  have hsco : ∀ (b : Nat) (o : AObj), H[b]? = some o → OS H.length ks o o := by
    intro b o ho
    cases o with
    | row cs u wr =>
      refine OS.same fun v hv => ?_
      obtain ⟨cells, t, fr, _, h2, _⟩ := hr.obj b _ ho
      obtain ⟨i, hi, rfl⟩ := List.getElem_of_mem hv
      obtain ⟨v', _, hvr⟩ := h2 i cs[i] (by simp [hi])
      exact ⟨ρ, v', hvr⟩
    | iter s p => exact ⟨rfl, rfl⟩
    | dead => trivial
  have each : ∀ (j : Nat) (o2 : AObj), (K ++ g2)[j]? = some o2 → ∃ o1, (K ++ g)[sg H.length ks j]? = some o1 ∧ OS H.length ks o2 o1 := by
    intro j o2 hj
    by_cases hlt : j < H.length
    · rw [List.getElem?_append_left (by omega)] at hj
      refine ⟨o2, by rw [sg_lt hlt, List.getElem?_append_left (by omega)]; exact hj, ?_⟩
      rcases hold j o2 hj with h1 | h1
      · exact hsco j o2 h1
      · exact h1
    · rw [List.getElem?_append_right (by omega), hK] at hj
      have hi : j - H.length < ks.length := by rw [hks]; exact (List.getElem?_eq_some_iff.1 hj).1
      obtain ⟨o1, h1, h2⟩ := hnew (j - H.length) ks[j - H.length] o2 (by simp [hi]) hj
      refine ⟨o1, ?_, h2⟩
      have e : sg H.length ks j = H.length + ks[j - H.length] := by
        have := sg_ge (n := H.length) (ks := ks) (i := j - H.length) (k := ks[j - H.length]) (by simp [hi])
        rw [show H.length + (j - H.length) = j by omega] at this
        exact this
      rw [e, List.getElem?_append_right (by omega), hK, Nat.add_sub_cancel_left]
      exact h1
  have inj : ∀ j k, j < H.length + ks.length → k < H.length + ks.length → sg H.length ks j = sg H.length ks k → j = k := by
    intro j k hj hk he
    by_cases h1 : j < H.length <;> by_cases h2 : k < H.length
    · rw [sg_lt h1, sg_lt h2] at he; exact he
    · rw [sg_lt h1] at he
      simp only [sg, if_neg h2] at he
      omega
    · rw [sg_lt h2] at he
      simp only [sg, if_neg h1] at he
      omega
    · simp only [sg, if_neg h1, if_neg h2] at he
      have e1 : ks.getD (j - H.length) 0 = ks[j - H.length]'(by omega) := by rw [List.getD_eq_getElem?_getD, List.getElem?_eq_getElem (by omega)]; rfl
      have e2 : ks.getD (k - H.length) 0 = ks[k - H.length]'(by omega) := by rw [List.getD_eq_getElem?_getD, List.getElem?_eq_getElem (by omega)]; rfl
      rw [e1, e2] at he
      have hjk : j - H.length = k - H.length := by
        rcases Nat.lt_trichotomy (j - H.length) (k - H.length) with h3 | h3 | h3
        · exact absurd (by omega) (List.pairwise_iff_getElem.1 hnd (j - H.length) (k - H.length) (by omega) (by omega) h3)
        · exact h3
        · exact absurd (by omega) (List.pairwise_iff_getElem.1 hnd (k - H.length) (j - H.length) (by omega) (by omega) h3)
      omega
  have hstep : Step T.G ρ H w (fun b => ρ1 (sg H.length ks b)) (K ++ g2) w1 := by
    refine ⟨⟨fun b o ho => ?_, fun b c o u hb hc hne hw hl => ?_, fun gl hg => ?_, by rw [hlen2]; have := hr.many; omega⟩, by rw [hlen2]; omega, fun b hb => ?_, hs.os, hs.tape, hs.output, hs.size, hs.frame, fun c hc => ?_⟩
    · obtain ⟨o1, h1, h2⟩ := each b o ho
      rw [hlen2]
      exact os_or hlen1 h2 (hs.rel.obj _ _ h1) rfl
    · obtain ⟨o1, h1, h2⟩ := each b o hb
      obtain ⟨u1, h3, h4⟩ := each c u hc
      refine hs.rel.inj _ _ _ _ h1 h3 (fun e => hne (inj b c ?_ ?_ e)) (os_wrt h2 hw) (os_live h4 hl)
      · rw [← hlen2]; exact (List.getElem?_eq_some_iff.1 hb).1
      · rw [← hlen2]; exact (List.getElem?_eq_some_iff.1 hc).1
    · show ρ1 (sg H.length ks gl) = _
      rw [sg_lt (Nat.lt_of_lt_of_le hg hr.many)]
      exact hs.rel.glob gl hg
    · show ρ1 (sg H.length ks b) = _
      rw [sg_lt hb]
      exact hs.same b hb
    · obtain ⟨b, o, hb, hw, rfl⟩ := hc
      obtain ⟨o1, h1, h2⟩ := each b o hb
      exact hs.fresh _ ⟨_, o1, h1, os_wrt h2 hw, rfl⟩
  refine ⟨_, hstep, ?_⟩
  rw [hlen2]
  cases r2 with
  | ret v2 =>
    cases r with
    | ret v1 =>
      obtain ⟨v', rfl, hv⟩ := hres1
      exact ⟨v', rfl, hres _ _ _ hlen1 hv⟩
    | pan v1 => exact hres.elim
  | pan v2 =>
    cases r with
    | ret v1 => exact hres.elim
    | pan v1 =>
      obtain ⟨v', rfl, hv⟩ := hres1
      exact ⟨v', rfl, hres _ _ _ hlen1 hv⟩

/-- A call that leaves all as it was. -/
theorem WD.gc0 {f : FuncId} {args : List Value} {H : Heap} {R : FRes → Heap → Prop}
    (h : WD T f args H (fun r H1 => ∃ v, r = .ret v ∧ (∃ g, H1 = H ++ g) ∧ Scoped H.length v ∧ R (.ret v) H)) : WD T f args H R := by
  refine WD.gc (h.mono fun r H1 ⟨v, h1, ⟨g, h2⟩, h3, h4⟩ => ⟨H, g, [], [], .ret v, h2, rfl, fun b o ho => .inl ho, rfl, List.nodup_nil, fun i k o2 hk => by simp at hk, ?_, by simpa using h4⟩)
  subst h1
  exact VS.old h3

/-- A call that changes one block. -/
theorem WD.gcU {f : FuncId} {args : List Value} {H : Heap} {R : FRes → Heap → Prop} (b : Nat)
    (h : WD T f args H (fun r H1 => ∃ v cs u wr, r = .ret v ∧ (∃ g, H1 = H.set b (.row cs u wr) ++ g) ∧ (∀ v ∈ cs, Scoped H.length v) ∧ Scoped H.length v ∧ R (.ret v) (H.set b (.row cs u wr)))) : WD T f args H R := by
  refine WD.gc (h.mono fun r H1 ⟨v, cs, u, wr, h1, ⟨g, h2⟩, h5, h3, h4⟩ => ⟨H.set b (.row cs u wr), g, [], [], .ret v, h2, by simp, fun c o ho => ?_, rfl, List.nodup_nil, fun i k o2 hk => by simp at hk, ?_, by simpa using h4⟩)
  · by_cases hc : b = c
    · subst hc
      by_cases hlt : b < H.length
      · rw [List.getElem?_set_self hlt] at ho
        cases ho
        exact .inr (OS.same h5)
      · rw [List.getElem?_eq_none (by simpa using hlt)] at ho
        cases ho
    · rw [List.getElem?_set_ne hc] at ho
      exact .inl ho
  · subst h1
    exact VS.old h3

/-- A call that makes one block that is led to. -/
theorem WD.gc1 {f : FuncId} {args : List Value} {H : Heap} {R : FRes → Heap → Prop}
    (h : WD T f args H (fun r H1 => ∃ (v v2 : Value) (cs : List Value) (u : Nat) (wr : Bool) (g : Heap) (k : Nat), r = .ret v ∧ H1 = H ++ g ∧ g[k]? = some (.row cs u wr) ∧ (∀ v ∈ cs, Scoped H.length v) ∧ VS H.length [k] v2 v ∧ R (.ret v2) (H ++ [.row cs u wr]))) : WD T f args H R := by
  refine WD.gc (h.mono fun r H1 ⟨v, v2, cs, u, wr, g, k, h1, h2, h3, h4, h5, h6⟩ => ⟨H, g, [.row cs u wr], [k], .ret v2, h2, rfl, fun b o ho => .inl ho, rfl, by simp, fun i k' o2 hk ho => ?_, ?_, h6⟩)
  · match i, hk, ho with
    | 0, hk, ho =>
      simp at hk ho
      subst hk; subst ho
      exact ⟨_, h3, OS.same h4⟩
  · subst h1
    exact h5

/-- A law's answer, over blocks that nothing may write: all that stood is as it was. -/
theorem wd_true {f : FuncId} {n : Nat} {body : ACode} {rs : List AResult} (hT : Laid T f (.code n body rs)) {args : List Value} {H : Heap} {b : Bool} (h : WD T f args H (fun r _ => r = .ret (.bool b))) {ρ : Nat → Place} {w : World} {args' : Array Value}
    (hr : Rel T.G ρ H w) (ha : VL H.length ρ args args'.toList) (hro : ∀ o ∈ H, o.wrt = false) : Calls T.P f args' w fun e w' => e = .returned (.bool b) ∧ Below w.heap.size w w' := by
  have henter : (callFunc f args').run T.P w = .ok (.enter f args') w := by
    obtain ⟨fn, hfn, hprep⟩ := hT
    unfold prepFn at hprep
    split at hprep
    · cases hprep
    · rename_i c hbody
      split at hprep
      · cases hprep
      · rename_i hname
        have hn2 : (fn.name == "runtime.NumGoroutine") = false := by simpa using hname
        unfold callFunc
        simp only [Sem.run_bind, run_program, Result.andThen_ok, hfn, hn2, Bool.false_eq_true, if_false, hbody, Option.isNone_some, Sem.run_pure]
  rcases h ρ w args' hr ha with ⟨v', h1, _⟩ | ⟨_, h2⟩
  · rw [henter] at h1
    cases h1
  · refine h2.mono fun e w' ⟨r, H1, hq, hret⟩ => ?_
    subst hq
    obtain ⟨ρ', hs, v', rfl, hv⟩ := hret
    refine ⟨by rw [hv.inv_bool], hs.os, hs.tape, hs.output, hs.size, fun c hc => hs.frame c hc ?_⟩
    rintro ⟨b, o, hb, ho, _⟩
    have := hro o (List.mem_of_getElem? hb)
    rw [ho] at this
    cases this

/-! ### A call over some blocks -/

/-- What stands in a heap of read-only rows of plain values is not changed by a call over these alone, whatever else there is. -/
theorem WD.frame0 {f : FuncId} {args : List Value} {H0 H : Heap} {v : Value} (hp : ∃ g, H = H0 ++ g) (hG : T.G ≤ H0.length) (hro : ∀ o ∈ H0, ∃ cs, o = .row cs 0 false ∧ ∀ v ∈ cs, Scoped H0.length v)
    (hargs : ∀ a ∈ args, closedV a = true) (hv : Scoped T.G v) (h : WD T f args H0 (fun r _ => r = .ret v)) {R : FRes → Heap → Prop} (hR : R (.ret v) H) : WD T f args H R := by
  obtain ⟨g, rfl⟩ := hp
  intro ρ w args' hr ha
  have hr0 : Rel T.G ρ H0 w := by
    refine ⟨fun b o ho => ?_, fun b c o u hb hc hne hw hl => ?_, hr.glob, hG⟩
    · obtain ⟨cs, rfl, hcs⟩ := hro o (List.mem_of_getElem? ho)
      have hb : b < H0.length := (List.getElem?_eq_some_iff.1 ho).1
      obtain ⟨cells, t, fr, h1, h2, h3⟩ := hr.obj b _ (by rw [List.getElem?_append_left hb]; exact ho)
      refine ⟨cells, t, fr, h1, fun i v hi => ?_, h3⟩
      obtain ⟨v', hv', hvr⟩ := h2 i v hi
      exact ⟨v', hv', hvr.narrow (hcs v (List.mem_of_getElem? hi))⟩
    · obtain ⟨cs, rfl, _⟩ := hro o (List.mem_of_getElem? hb)
      cases hw
  have ha0 : VL H0.length ρ args args'.toList := ⟨ha.1, fun i x y hx hy => (ha.2 i x y hx hy).narrow (.closed (hargs x (List.mem_of_getElem? hx)))⟩
  have nofoot : ∀ c, ¬ Foot ρ H0 c := by
    rintro c ⟨b, o, hb, hw, _⟩
    obtain ⟨cs, rfl, _⟩ := hro o (List.mem_of_getElem? hb)
    cases hw
  have key : ∀ en w1, (∃ r H1, r = .ret v ∧ RetOK T.G ρ H0 w r H1 en w1) → ∃ r H1, R r H1 ∧ RetOK T.G ρ (H0 ++ g) w r H1 en w1 := by
    rintro en w1 ⟨r, H1, rfl, ρ1, hs, v', rfl, hvr⟩
    have hold : ∀ c, c < w.heap.size → w1.heap[c]? = w.heap[c]? := fun c hc => hs.frame c hc (nofoot c)
    refine ⟨_, _, hR, ρ, ⟨⟨fun b o ho => ?_, hr.inj, hr.glob, hr.many⟩, Nat.le_refl _, fun _ _ => rfl, hs.os, hs.tape, hs.output, hs.size, fun c hc _ => hold c hc, fun c hc => .inl hc⟩, v', rfl, ?_⟩
    · exact (hr.obj b o ho).mono (Nat.le_refl _) rfl (fun _ _ => rfl) (fun hl => hold _ (lt_of_live (hr.obj b o ho) hl))
    · have h1 : VR T.G ρ1 v v' := hvr.narrow hv
      refine (h1.mono (Nat.le_refl _) fun b hb => ?_).mono (by have := hr.many; omega) fun _ _ => rfl
      exact (hr.glob b hb).trans (hs.rel.glob b hb).symm
  rcases h ρ w args' hr0 ha0 with ⟨v', h1, h2⟩ | ⟨h1, h2⟩
  · exact .inl ⟨v', h1, key _ _ h2⟩
  · exact .inr ⟨h1, h2.mono key⟩

/-- The same of a call that makes one list of plain values. -/
theorem WD.frame1 {f : FuncId} {args : List Value} {H0 H : Heap} {cs : List Value} {u l c : Nat} (hp : ∃ g, H = H0 ++ g) (hG : T.G ≤ H0.length) (hro : ∀ o ∈ H0, ∃ cs, o = .row cs 0 false ∧ ∀ v ∈ cs, Scoped H0.length v)
    (hargs : ∀ a ∈ args, closedV a = true) (hcs : ∀ v ∈ cs, Scoped T.G v) (h : WD T f args H0 (fun r H1 => r = .ret (.slice (some ⟨H0.length, 0, none⟩) l c) ∧ H1 = H0 ++ [.row cs u true])) {R : FRes → Heap → Prop}
    (hR : R (.ret (.slice (some ⟨H.length, 0, none⟩) l c)) (H ++ [.row cs u true])) : WD T f args H R := by
  obtain ⟨g, rfl⟩ := hp
  intro ρ w args' hr ha
  have hr0 : Rel T.G ρ H0 w := by
    refine ⟨fun b o ho => ?_, fun b c o u hb hc hne hw hl => ?_, hr.glob, hG⟩
    · obtain ⟨cs, rfl, hcs⟩ := hro o (List.mem_of_getElem? ho)
      have hb : b < H0.length := (List.getElem?_eq_some_iff.1 ho).1
      obtain ⟨cells, t, fr, h1, h2, h3⟩ := hr.obj b _ (by rw [List.getElem?_append_left hb]; exact ho)
      refine ⟨cells, t, fr, h1, fun i v hi => ?_, h3⟩
      obtain ⟨v', hv', hvr⟩ := h2 i v hi
      exact ⟨v', hv', hvr.narrow (hcs v (List.mem_of_getElem? hi))⟩
    · obtain ⟨cs, rfl, _⟩ := hro o (List.mem_of_getElem? hb)
      cases hw
  have ha0 : VL H0.length ρ args args'.toList := ⟨ha.1, fun i x y hx hy => (ha.2 i x y hx hy).narrow (.closed (hargs x (List.mem_of_getElem? hx)))⟩
  have nofoot : ∀ c, ¬ Foot ρ H0 c := by
    rintro c ⟨b, o, hb, hw, _⟩
    obtain ⟨cs, rfl, _⟩ := hro o (List.mem_of_getElem? hb)
    cases hw
  have key : ∀ en w1, (∃ r H1, (r = .ret (.slice (some ⟨H0.length, 0, none⟩) l c) ∧ H1 = H0 ++ [.row cs u true]) ∧ RetOK T.G ρ H0 w r H1 en w1) → ∃ r H1, R r H1 ∧ RetOK T.G ρ (H0 ++ g) w r H1 en w1 := by
    rintro en w1 ⟨r, H1, ⟨rfl, rfl⟩, ρ1, hs, v', rfl, hvr⟩
    have hold : ∀ c, c < w.heap.size → w1.heap[c]? = w.heap[c]? := fun c hc => hs.frame c hc (nofoot c)
    have hnew : (H0 ++ [AObj.row cs u true])[H0.length]? = some (.row cs u true) := by simp
    have hfresh : w.heap.size ≤ (ρ1 H0.length).blk := (hs.fresh _ ⟨_, _, hnew, rfl, rfl⟩).resolve_left (nofoot _)
    have hglob : ∀ b, b < T.G → Ev.ext ρ (H0 ++ g).length (ρ1 H0.length) b = ρ1 b := fun b hb => by
      rw [Ev.ext_lt (Nat.lt_of_lt_of_le hb hr.many)]
      exact (hr.glob b hb).trans (hs.rel.glob b hb).symm
    have cases_ : ∀ (b : Nat) (o : AObj), (H0 ++ g ++ [AObj.row cs u true])[b]? = some o → (b < (H0 ++ g).length ∧ (H0 ++ g)[b]? = some o) ∨ (b = (H0 ++ g).length ∧ o = .row cs u true) := fun b o hb => by
      by_cases h1 : b < (H0 ++ g).length
      · rw [List.getElem?_append_left h1] at hb; exact .inl ⟨h1, hb⟩
      · rw [List.getElem?_append_right (by omega)] at hb
        obtain ⟨h2, h3⟩ := List.getElem?_eq_some_iff.1 hb
        have : b = (H0 ++ g).length := by rw [List.length_singleton] at h2; omega
        subst this
        simp at h3
        exact .inr ⟨rfl, h3.symm⟩
    refine ⟨_, _, hR, Ev.ext ρ (H0 ++ g).length (ρ1 H0.length), ⟨⟨fun b o ho => ?_, fun b c o u' hb hc hne hw hl => ?_, fun b hb => ?_, by simp; have := hr.many; simp at this; omega⟩, by simp, fun b hb => Ev.ext_lt hb, hs.os, hs.tape, hs.output, hs.size, fun c hc _ => hold c hc, fun c hc => ?_⟩, v', rfl, ?_⟩
    · rcases cases_ b o ho with ⟨hb, ho⟩ | ⟨rfl, rfl⟩
      · exact (hr.obj b o ho).mono (by simp) (Ev.ext_lt hb) (fun c hc => Ev.ext_lt hc) (fun hl => hold _ (lt_of_live (hr.obj b o ho) hl))
      · obtain ⟨cells, t, fr, h1, h2, h3⟩ := hs.rel.obj _ _ hnew
        rw [OR, Ev.ext_same]
        refine ⟨cells, t, fr, h1, fun i v hi => ?_, h3⟩
        obtain ⟨v', hv', hv⟩ := h2 i v hi
        refine ⟨v', hv', ((hv.narrow (hcs v (List.mem_of_getElem? hi))).mono (Nat.le_refl _) hglob).mono ?_ fun _ _ => rfl⟩
        have := hr.many
        simp at this ⊢
        omega
    · rcases cases_ b o hb with ⟨hb, hb2⟩ | ⟨rfl, rfl⟩ <;> rcases cases_ c u' hc with ⟨hc, hc2⟩ | ⟨rfl, rfl⟩
      · rw [Ev.ext_lt hb, Ev.ext_lt hc]; exact hr.inj b c o u' hb2 hc2 hne hw hl
      · rw [Ev.ext_lt hb, Ev.ext_same]
        exact Nat.ne_of_lt (Nat.lt_of_lt_of_le (lt_of_live (hr.obj b o hb2) (live_of_wrt hw)) hfresh)
      · rw [Ev.ext_lt hc, Ev.ext_same]
        exact Nat.ne_of_gt (Nat.lt_of_lt_of_le (lt_of_live (hr.obj c u' hc2) hl) hfresh)
      · exact absurd rfl hne
    · rw [Ev.ext_lt (Nat.lt_of_lt_of_le hb hr.many)]; exact hr.glob b hb
    · obtain ⟨b, o, hb, hw, rfl⟩ := hc
      rcases cases_ b o hb with ⟨hb, hb2⟩ | ⟨rfl, rfl⟩
      · rw [Ev.ext_lt hb]; exact .inl ⟨b, o, hb2, hw, rfl⟩
      · rw [Ev.ext_same]; exact .inr hfresh
    · cases hvr with
      | sl _ _ _ _ c' hb h0 h1 h2 =>
        have e : Ev.ext ρ (H0 ++ g).length (ρ1 H0.length) (H0 ++ g).length = ρ1 H0.length := Ev.ext_same
        have h2' : c' ≤ c + (Ev.ext ρ (H0 ++ g).length (ρ1 H0.length) (H0 ++ g).length).ext := by rw [e]; exact h2
        have hlt : (H0 ++ g).length < (H0 ++ g ++ [AObj.row cs u true]).length := by rw [List.length_append (bs := [AObj.row cs u true]), List.length_singleton]; omega
        have q := VR.sl (ρ := Ev.ext ρ (H0 ++ g).length (ρ1 H0.length)) (H0 ++ g).length 0 l c c' hlt h0 h1 h2'
        rw [e] at q
        exact q
  rcases h ρ w args' hr0 ha0 with ⟨v', h1, h2⟩ | ⟨h1, h2⟩
  · exact .inl ⟨v', h1, key _ _ h2⟩
  · exact .inr ⟨h1, h2.mono key⟩

end Go.Proofs.YtedemfmafdilmaaDoor.Ev
