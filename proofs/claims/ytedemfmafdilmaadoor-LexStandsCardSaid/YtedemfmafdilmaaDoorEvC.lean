/- The relation between the evaluator's blocks and the model's, and how it is kept. Conditions: none. -/
import Derived.Test.YtedemfmafdilmaaDoorEvB
import Derived.Laws.Sem
import Derived.Laws.Cells
import Derived.Laws.World
import Derived.Laws.Strings
namespace Go.Proofs.YtedemfmafdilmaaDoor.Ev

structure Place where
  blk : Nat
  off : Nat
  ext : Nat

inductive VR (n : Nat) (ρ : Nat → Place) : Value → Value → Prop where
  | bool (b : Bool) : VR n ρ (.bool b) (.bool b)
  | int (k : IntKind) (x : Int) : VR n ρ (.int k x) (.int k x)
  | float (k : FloatKind) (x : Nat) : VR n ρ (.float k x) (.float k x)
  | string (s : ByteArray) : VR n ρ (.string s) (.string s)
  | ptrNil : VR n ρ (.pointer none) (.pointer none)
  | ptr (b o : Nat) (h : b < n) : VR n ρ (.pointer (some ⟨b, o, none⟩)) (.pointer (some ⟨(ρ b).blk, (ρ b).off + o, none⟩))
  | slNil : VR n ρ (.slice none 0 0) (.slice none 0 0)
  | sl (b o l c c' : Nat) (h : b < n) (h0 : l ≤ c) (h1 : c ≤ c') (h2 : c' ≤ c + (ρ b).ext) :
      VR n ρ (.slice (some ⟨b, o, none⟩) l c) (.slice (some ⟨(ρ b).blk, (ρ b).off + o, none⟩) l c')
  | slE (b o k : Nat) (a : Addr) (c' : Nat) : VR n ρ (.slice (some ⟨b, o, some k⟩) 0 0) (.slice (some a) 0 c')
  | mapNil : VR n ρ (.map none) (.map none)
  | nilFunc : VR n ρ .nilFunc .nilFunc
  | nilIface : VR n ρ .nilIface .nilIface
  | func (fn : Fn) (f f' c c' : Array Value) (hf : f.size = f'.size) (hc : c.size = c'.size)
      (h1 : ∀ i (a : i < f.size) (b : i < f'.size), VR n ρ f[i] f'[i]) (h2 : ∀ i (a : i < c.size) (b : i < c'.size), VR n ρ c[i] c'[i]) :
      VR n ρ (.func fn f c) (.func fn f' c')
  | iface (t : TypeId) (v v' : Value) (h : VR n ρ v v') : VR n ρ (.iface t v) (.iface t v')
  | agg (c c' : Array Value) (hc : c.size = c'.size) (h : ∀ i (a : i < c.size) (b : i < c'.size), VR n ρ c[i] c'[i]) : VR n ρ (.agg c) (.agg c')
  | tuple (c c' : Array Value) (hc : c.size = c'.size) (h : ∀ i (a : i < c.size) (b : i < c'.size), VR n ρ c[i] c'[i]) : VR n ρ (.tuple c) (.tuple c')

theorem VR.mono {n n' : Nat} {ρ ρ' : Nat → Place} {v v' : Value} (h : VR n ρ v v') (hn : n ≤ n') (hρ : ∀ b, b < n → ρ' b = ρ b) : VR n' ρ' v v' := by
  induction h with
  | bool b => exact .bool b
  | int k x => exact .int k x
  | float k x => exact .float k x
  | string s => exact .string s
  | ptrNil => exact .ptrNil
  | ptr b o h => rw [← hρ b h]; exact .ptr b o (by omega)
  | slNil => exact .slNil
  | sl b o l c c' h h0 h1 h2 => rw [← hρ b h]; exact .sl b o l c c' (by omega) h0 h1 (by rw [hρ b h]; exact h2)
  | slE b o k a c' => exact .slE b o k a c'
  | mapNil => exact .mapNil
  | nilFunc => exact .nilFunc
  | nilIface => exact .nilIface
  | func fn f f' c c' hf hc h1 h2 i1 i2 => exact .func fn f f' c c' hf hc i1 i2
  | iface t v v' h ih => exact .iface t v v' ih
  | agg c c' hc h ih => exact .agg c c' hc ih
  | tuple c c' hc h ih => exact .tuple c c' hc ih

theorem VR.of_closed1 {n : Nat} {ρ : Nat → Place} {v : Value} (h : closed1 v = true) : VR n ρ v v := by
  unfold closed1 at h
  split at h <;> first | exact .bool _ | exact .int _ _ | exact .float _ _ | exact .string _ | exact .ptrNil | exact .slNil | exact .mapNil | exact .nilFunc | exact .nilIface | cases h

theorem VR.of_closed {n : Nat} {ρ : Nat → Place} {v : Value} (h : closedV v = true) : VR n ρ v v := by
  unfold closedV at h
  split at h
  · exact .agg _ _ rfl fun i a _ => .of_closed1 (List.all_eq_true.1 h _ (by simp))
  · exact .tuple _ _ rfl fun i a _ => .of_closed1 (List.all_eq_true.1 h _ (by simp))
  · simp only [List.isEmpty_iff, Bool.and_eq_true, Array.toList_eq_nil_iff] at h
    obtain ⟨rfl, rfl⟩ := h
    exact .func _ _ _ _ _ rfl rfl (fun i a => by simp at a) (fun i a => by simp at a)
  · exact .of_closed1 h

theorem VR.undef {n : Nat} {ρ : Nat → Place} : VR n ρ Go.undef Go.undef := .tuple _ _ rfl fun i a => by simp at a

/-- Two lists of values. -/
def VL (n : Nat) (ρ : Nat → Place) (xs ys : List Value) : Prop := xs.length = ys.length ∧ ∀ (i : Nat) (x y : Value), xs[i]? = some x → ys[i]? = some y → VR n ρ x y

theorem VL.mono {n n' : Nat} {ρ ρ' : Nat → Place} {xs ys : List Value} (h : VL n ρ xs ys) (hn : n ≤ n') (hρ : ∀ b, b < n → ρ' b = ρ b) : VL n' ρ' xs ys :=
  ⟨h.1, fun i x y hx hy => (h.2 i x y hx hy).mono hn hρ⟩

theorem VL.nil {n : Nat} {ρ : Nat → Place} : VL n ρ [] [] := ⟨rfl, fun i x y h => by simp at h⟩

theorem VL.cons {n : Nat} {ρ : Nat → Place} {x y : Value} {xs ys : List Value} (h : VR n ρ x y) (hl : VL n ρ xs ys) : VL n ρ (x :: xs) (y :: ys) := by
  refine ⟨by simp [hl.1], fun i a b ha hb => ?_⟩
  cases i with
  | zero => simp at ha hb; subst ha; subst hb; exact h
  | succ i => simp at ha hb; exact hl.2 i a b ha hb

theorem VL.head {n : Nat} {ρ : Nat → Place} {x y : Value} {xs ys : List Value} (h : VL n ρ (x :: xs) (y :: ys)) : VR n ρ x y := h.2 0 x y rfl rfl

theorem VL.tail {n : Nat} {ρ : Nat → Place} {x y : Value} {xs ys : List Value} (h : VL n ρ (x :: xs) (y :: ys)) : VL n ρ xs ys :=
  ⟨by simpa using h.1, fun i a b ha hb => h.2 (i + 1) a b (by simpa using ha) (by simpa using hb)⟩

theorem VL.append {n : Nat} {ρ : Nat → Place} {xs ys us vs : List Value} (h : VL n ρ xs ys) (k : VL n ρ us vs) : VL n ρ (xs ++ us) (ys ++ vs) := by
  refine ⟨by simp [h.1, k.1], fun i a b ha hb => ?_⟩
  by_cases hi : i < xs.length
  · rw [List.getElem?_append_left hi] at ha
    rw [List.getElem?_append_left (by rw [← h.1]; exact hi)] at hb
    exact h.2 i a b ha hb
  · rw [List.getElem?_append_right (by omega)] at ha
    rw [List.getElem?_append_right (by rw [← h.1]; omega), ← h.1] at hb
    exact k.2 _ a b ha hb

theorem VL.take {n : Nat} {ρ : Nat → Place} {xs ys : List Value} (h : VL n ρ xs ys) (m : Nat) : VL n ρ (xs.take m) (ys.take m) := by
  refine ⟨by simp [h.1], fun i a b ha hb => ?_⟩
  rw [List.getElem?_take] at ha hb
  split at ha
  · rw [if_pos (by assumption)] at hb; exact h.2 i a b ha hb
  · cases ha

theorem VL.drop {n : Nat} {ρ : Nat → Place} {xs ys : List Value} (h : VL n ρ xs ys) (m : Nat) : VL n ρ (xs.drop m) (ys.drop m) := by
  refine ⟨by simp [h.1], fun i a b ha hb => ?_⟩
  rw [List.getElem?_drop] at ha hb
  exact h.2 _ a b ha hb

theorem VL.get {n : Nat} {ρ : Nat → Place} {xs ys : List Value} (h : VL n ρ xs ys) {i : Nat} {x : Value} (hx : xs[i]? = some x) : ∃ y, ys[i]? = some y ∧ VR n ρ x y := by
  have hi : i < xs.length := (List.getElem?_eq_some_iff.1 hx).1
  have hj : i < ys.length := by rw [← h.1]; exact hi
  exact ⟨ys[i], by simp [hj], h.2 i x _ hx (by simp [hj])⟩

theorem VL.of_arrays {n : Nat} {ρ : Nat → Place} {c c' : Array Value} (hc : c.size = c'.size) (h : ∀ i (a : i < c.size) (b : i < c'.size), VR n ρ c[i] c'[i]) : VL n ρ c.toList c'.toList := by
  refine ⟨by simpa using hc, fun i x y hx hy => ?_⟩
  obtain ⟨h1, rfl⟩ := List.getElem?_eq_some_iff.1 hx
  obtain ⟨h2, rfl⟩ := List.getElem?_eq_some_iff.1 hy
  exact h i (by simpa using h1) (by simpa using h2)

theorem VL.arrays {n : Nat} {ρ : Nat → Place} {c c' : Array Value} (h : VL n ρ c.toList c'.toList) : c.size = c'.size ∧ ∀ i (a : i < c.size) (b : i < c'.size), VR n ρ c[i] c'[i] :=
  ⟨by simpa using h.1, fun i a b => h.2 i _ _ (by simp [a]) (by simp [b])⟩

theorem VL.agg {n : Nat} {ρ : Nat → Place} {xs ys : List Value} (h : VL n ρ xs ys) : VR n ρ (.agg xs.toArray) (.agg ys.toArray) :=
  .agg _ _ (VL.arrays (c := xs.toArray) (c' := ys.toArray) h).1 (VL.arrays (c := xs.toArray) (c' := ys.toArray) h).2

theorem VL.tuple {n : Nat} {ρ : Nat → Place} {xs ys : List Value} (h : VL n ρ xs ys) : VR n ρ (.tuple xs.toArray) (.tuple ys.toArray) :=
  .tuple _ _ (VL.arrays (c := xs.toArray) (c' := ys.toArray) h).1 (VL.arrays (c := xs.toArray) (c' := ys.toArray) h).2

theorem VL.map {n : Nat} {ρ : Nat → Place} {α : Type} (l : List α) (f g : α → Value) (h : ∀ x ∈ l, VR n ρ (f x) (g x)) : VL n ρ (l.map f) (l.map g) := by
  refine ⟨by simp, fun i a b ha hb => ?_⟩
  simp only [List.getElem?_map, Option.map_eq_some_iff] at ha hb
  obtain ⟨x, hx, rfl⟩ := ha
  obtain ⟨y, hy, rfl⟩ := hb
  rw [hx] at hy; cases hy
  exact h x (List.mem_of_getElem? hx)

theorem VL.closed {n : Nat} {ρ : Nat → Place} {xs : List Value} (h : ∀ x ∈ xs, closedV x = true) : VL n ρ xs xs := by
  simpa using VL.map xs id id (fun x hx => VR.of_closed (h x hx))

theorem VR.cells {n : Nat} {ρ : Nat → Place} {v v' : Value} (h : VR n ρ v v') : VL n ρ (cellsOf v) v'.cells.toList := by
  cases h <;> first
    | exact VL.of_arrays (by assumption) (by assumption)
    | (refine VL.cons ?_ VL.nil; first | exact .bool _ | exact .int _ _ | exact .float _ _ | exact .string _ | exact .ptrNil | exact .ptr _ _ (by assumption) | exact .slNil | exact .sl _ _ _ _ _ (by assumption) (by assumption) (by assumption) (by assumption) | exact .slE _ _ _ _ _ | exact .mapNil | exact .nilFunc | exact .nilIface | exact .func _ _ _ _ _ (by assumption) (by assumption) (by assumption) (by assumption) | exact .iface _ _ _ (by assumption) | exact .tuple _ _ (by assumption) (by assumption))

theorem VR.one {n : Nat} {ρ : Nat → Place} {v v' : Value} (h : VR n ρ v v') : v'.oneCell' = oneCell v := by
  cases h <;> rfl

theorem get_put (e : Env) (d : Nat) (v : Value) (t : Nat) : get (put e d v) t = if t = d then v else get e t := by
  induction d generalizing e t with
  | zero =>
    cases e with
    | nil => cases t <;> simp [put, get]
    | cons u e => cases t <;> simp [put, get]
  | succ d ih =>
    cases e with
    | nil => cases t with
      | zero => simp [put, get]
      | succ t => simp only [put, get, ih]; simp
    | cons u e => cases t with
      | zero => simp [put, get]
      | succ t => simp only [put, get, ih]; simp

theorem get_eq (e : Env) (t : Nat) : get e t = e.getD t undef := by
  induction e generalizing t with
  | nil => simp [get]
  | cons u e ih => cases t with
    | zero => simp [get]
    | succ t => simp [get, ih]

/-- The slots of a frame. -/
def ER (n : Nat) (ρ : Nat → Place) (N : Nat) (e : Env) (t : Array Value) : Prop := t.size = N ∧ ∀ i, i < N → VR n ρ (get e i) (t.getD i undef)

theorem ER.mono {n n' N : Nat} {ρ ρ' : Nat → Place} {e : Env} {t : Array Value} (h : ER n ρ N e t) (hn : n ≤ n') (hρ : ∀ b, b < n → ρ' b = ρ b) : ER n' ρ' N e t :=
  ⟨h.1, fun i hi => (h.2 i hi).mono hn hρ⟩

theorem ER.putO {n N : Nat} {ρ : Nat → Place} {e : Env} {a : Act} {d : Option Nat} {v v' : Value} (h : ER n ρ N e a.tmps) (hv : VR n ρ v v') : ER n ρ N (putO e d v) (a.put d v').tmps := by
  cases d with
  | none => exact h
  | some d =>
    refine ⟨by simp [Act.put, h.1], fun i hi => ?_⟩
    simp only [Ev.putO, get_put, Act.put]
    by_cases hid : i = d
    · subst hid
      have : i < a.tmps.size := by rw [h.1]; exact hi
      simp [this]; exact hv
    · have hne : ¬ d = i := fun e => hid e.symm
      rw [if_neg hid]
      have := h.2 i hi
      simpa [Array.getElem?_setIfInBounds_ne hne] using this

theorem put_defers (a : Act) (d : Option Nat) (v : Value) : (a.put d v).defers = a.defers := by cases d <;> rfl

/-! Blocks. -/

def OR (n : Nat) (ρ : Nat → Place) (w : World) (b : Nat) : AObj → Prop
  | .row cs unit wr => ∃ cells t fr, w.heap[(ρ b).blk]? = some (.cells cells t fr) ∧
      (∀ (i : Nat) (v : Value), cs[i]? = some v → ∃ v', cells[(ρ b).off + i]? = some v' ∧ VR n ρ v v') ∧
      (wr = true → (ρ b).off + cs.length + (ρ b).ext * unit ≤ cells.size ∧ (∀ i, i < cells.size → ¬ (fr.1 ≤ i ∧ i < fr.2)) ∧ (unit = 0 → fr = (0, 0)))
  | .iter s p => w.heap[(ρ b).blk]? = some (.stringIter s p) ∧ (ρ b).off = 0
  | .dead => True

structure Rel (G : Nat) (ρ : Nat → Place) (H : Heap) (w : World) : Prop where
  obj : ∀ b o, H[b]? = some o → OR H.length ρ w b o
  inj : ∀ b c o u, H[b]? = some o → H[c]? = some u → b ≠ c → o.wrt = true → u.live = true → (ρ b).blk ≠ (ρ c).blk
  glob : ∀ g, g < G → ρ g = ⟨g, 0, 0⟩
  many : G ≤ H.length

def Foot (ρ : Nat → Place) (H : Heap) (c : Nat) : Prop := ∃ b o, H[b]? = some o ∧ o.wrt = true ∧ (ρ b).blk = c

structure Step (G : Nat) (ρ : Nat → Place) (H : Heap) (w : World) (ρ' : Nat → Place) (H' : Heap) (w' : World) : Prop where
  rel : Rel G ρ' H' w'
  len : H.length ≤ H'.length
  same : ∀ b, b < H.length → ρ' b = ρ b
  os : w'.os = w.os
  tape : w'.tape = w.tape
  output : w'.output = w.output
  size : w.heap.size ≤ w'.heap.size
  frame : ∀ c, c < w.heap.size → ¬ Foot ρ H c → w'.heap[c]? = w.heap[c]?
  fresh : ∀ c, Foot ρ' H' c → Foot ρ H c ∨ w.heap.size ≤ c

theorem Step.refl {G : Nat} {ρ : Nat → Place} {H : Heap} {w : World} (h : Rel G ρ H w) : Step G ρ H w ρ H w :=
  ⟨h, Nat.le_refl _, fun _ _ => rfl, rfl, rfl, rfl, Nat.le_refl _, fun _ _ _ => rfl, fun _ h => .inl h⟩

theorem Step.trans {G : Nat} {ρ ρ' ρ'' : Nat → Place} {H H' H'' : Heap} {w w' w'' : World} (h : Step G ρ H w ρ' H' w') (k : Step G ρ' H' w' ρ'' H'' w'') : Step G ρ H w ρ'' H'' w'' := by
  refine ⟨k.rel, Nat.le_trans h.len k.len, fun b hb => (k.same b (Nat.lt_of_lt_of_le hb h.len)).trans (h.same b hb), k.os.trans h.os, k.tape.trans h.tape, k.output.trans h.output, Nat.le_trans h.size k.size, fun c hc hn => ?_, fun c hc => ?_⟩
  · rw [k.frame c (Nat.lt_of_lt_of_le hc h.size) (fun hf => ?_), h.frame c hc hn]
    rcases h.fresh c hf with h1 | h1
    · exact hn h1
    · omega
  · rcases k.fresh c hc with h1 | h1
    · exact h.fresh c h1
    · exact .inr (Nat.le_trans h.size h1)

theorem lt_of_live {n : Nat} {ρ : Nat → Place} {w : World} {b : Nat} {o : AObj} (h : OR n ρ w b o) (hl : o.live = true) : (ρ b).blk < w.heap.size := by
  cases o with
  | row cs u wr =>
    obtain ⟨cells, t, fr, h1, _⟩ := h
    exact (Array.getElem?_eq_some_iff.1 h1).1
  | iter s p => exact (Array.getElem?_eq_some_iff.1 h.1).1
  | dead => cases hl

theorem live_of_wrt {o : AObj} (h : o.wrt = true) : o.live = true := by cases o <;> first | rfl | cases h

theorem OR.mono {n n' : Nat} {ρ ρ' : Nat → Place} {w w' : World} {b : Nat} {o : AObj} (h : OR n ρ w b o) (hn : n ≤ n') (hb : ρ' b = ρ b) (hρ : ∀ b, b < n → ρ' b = ρ b)
    (hw : o.live = true → w'.heap[(ρ b).blk]? = w.heap[(ρ b).blk]?) : OR n' ρ' w' b o := by
  cases o with
  | row cs u wr =>
    obtain ⟨cells, t, fr, h1, h2, h3⟩ := h
    rw [OR, hb]
    refine ⟨cells, t, fr, by rw [hw rfl]; exact h1, fun i v hv => ?_, h3⟩
    obtain ⟨v', hv', hr⟩ := h2 i v hv
    exact ⟨v', hv', hr.mono hn hρ⟩
  | iter s p => rw [OR, hb, hw rfl]; exact h
  | dead => trivial

/-- A new block at the heap's end. -/
def ext (ρ : Nat → Place) (n : Nat) (p : Place) : Nat → Place := fun b => if b = n then p else ρ b

theorem ext_same {ρ : Nat → Place} {n : Nat} {p : Place} : ext ρ n p n = p := by simp [ext]
theorem ext_lt {ρ : Nat → Place} {n : Nat} {p : Place} {b : Nat} (h : b < n) : ext ρ n p b = ρ b := by simp [ext]; omega

theorem Step.new {G : Nat} {ρ : Nat → Place} {H : Heap} {w : World} (hr : Rel G ρ H w) (o : Obj) (x : AObj) (e : Nat)
    (ho : OR (H.length + 1) (ext ρ H.length ⟨w.heap.size, 0, e⟩) { w with heap := w.heap.push o } H.length x) :
    Step G ρ H w (ext ρ H.length ⟨w.heap.size, 0, e⟩) (H ++ [x]) { w with heap := w.heap.push o } := by
  have old : ∀ c, c < w.heap.size → ({ w with heap := w.heap.push o } : World).heap[c]? = w.heap[c]? := fun c hc => by
    simp [Array.getElem?_push, Nat.ne_of_lt hc]
  have cases_ : ∀ b u, (H ++ [x])[b]? = some u → (b < H.length ∧ H[b]? = some u) ∨ (b = H.length ∧ u = x) := fun b u h => by
    by_cases hb : b < H.length
    · rw [List.getElem?_append_left hb] at h; exact .inl ⟨hb, h⟩
    · rw [List.getElem?_append_right (by omega)] at h
      obtain ⟨h1, h2⟩ := List.getElem?_eq_some_iff.1 h
      simp at h1
      have : b = H.length := by omega
      subst this
      simp at h2
      exact .inr ⟨rfl, h2.symm⟩
  refine ⟨⟨fun b u hu => ?_, fun b c u v hu hv hne hw hl => ?_, fun g hg => ?_, by simp; have := hr.many; omega⟩, by simp, fun b hb => ext_lt hb, rfl, rfl, rfl, by simp, fun c hc _ => old c hc, fun c hc => ?_⟩
  · rcases cases_ b u hu with ⟨hb, hu⟩ | ⟨rfl, rfl⟩
    · refine (hr.obj b u hu).mono (by simp) (ext_lt hb) (fun c hc => ext_lt hc) (fun hl => old _ (lt_of_live (hr.obj b u hu) hl))
    · simpa using ho
  · rcases cases_ b u hu with ⟨hb, hu2⟩ | ⟨rfl, rfl⟩ <;> rcases cases_ c v hv with ⟨hc, hv2⟩ | ⟨rfl, rfl⟩
    · rw [ext_lt hb, ext_lt hc]; exact hr.inj b c u v hu2 hv2 hne hw hl
    · rw [ext_lt hb, ext_same]; exact Nat.ne_of_lt (lt_of_live (hr.obj b u hu2) (live_of_wrt hw))
    · rw [ext_lt hc, ext_same]; exact Nat.ne_of_gt (lt_of_live (hr.obj c v hv2) hl)
    · exact absurd rfl hne
  · rw [ext_lt (Nat.lt_of_lt_of_le hg hr.many)]; exact hr.glob g hg
  · obtain ⟨b, u, hu, hw, rfl⟩ := hc
    rcases cases_ b u hu with ⟨hb, hu⟩ | ⟨rfl, rfl⟩
    · rw [ext_lt hb]; exact .inl ⟨b, u, hu, hw, rfl⟩
    · rw [ext_same]; exact .inr (Nat.le_refl _)

/-- A block changes in its place. -/
theorem Step.upd {G : Nat} {ρ : Nat → Place} {H : Heap} {w w' : World} {b : Nat} {o x : AObj} (hr : Rel G ρ H w) (hb : H[b]? = some o) (hw : o.wrt = true) (hx : x.wrt = true)
    (hs : w'.heap.size = w.heap.size) (hh : ∀ c, c ≠ (ρ b).blk → w'.heap[c]? = w.heap[c]?) (h1 : w'.os = w.os) (h2 : w'.tape = w.tape) (h3 : w'.output = w.output)
    (ho : OR H.length ρ w' b x) : Step G ρ H w ρ (H.set b x) w' := by
  have hlt : b < H.length := (List.getElem?_eq_some_iff.1 hb).1
  have cases_ : ∀ c u, (H.set b x)[c]? = some u → (c ≠ b ∧ H[c]? = some u) ∨ (c = b ∧ u = x) := fun c u h => by
    by_cases hc : c = b
    · subst hc; rw [List.getElem?_set_self hlt] at h; cases h; exact .inr ⟨rfl, rfl⟩
    · rw [List.getElem?_set_ne (fun e => hc e.symm)] at h; exact .inl ⟨hc, h⟩
  refine ⟨⟨fun c u hu => ?_, fun c d u v hu hv hne hwr hl => ?_, hr.glob, by simpa using hr.many⟩, by simp, fun _ _ => rfl, h1, h2, h3, by omega, fun c hc hn => ?_, fun c hc => ?_⟩
  · rw [List.length_set]
    rcases cases_ c u hu with ⟨hc, hu⟩ | ⟨rfl, rfl⟩
    · exact (hr.obj c u hu).mono (Nat.le_refl _) rfl (fun _ _ => rfl) (fun hl => hh _ (fun e => hr.inj b c o u hb hu (fun e => hc e.symm) hw hl e.symm))
    · exact ho
  · rcases cases_ c u hu with ⟨hc, hu2⟩ | ⟨rfl, rfl⟩ <;> rcases cases_ d v hv with ⟨hd, hv2⟩ | ⟨rfl, rfl⟩
    · exact hr.inj c d u v hu2 hv2 hne hwr hl
    · exact hr.inj c d u o hu2 hb hne hwr (live_of_wrt hw)
    · exact hr.inj c d o v hb hv2 hne hw hl
    · exact absurd rfl hne
  · exact hh c (fun e => hn ⟨b, o, hb, hw, e.symm⟩)
  · obtain ⟨d, u, hu, hwr, rfl⟩ := hc
    rcases cases_ d u hu with ⟨hd, hu⟩ | ⟨rfl, rfl⟩
    · exact .inl ⟨d, u, hu, hwr, rfl⟩
    · exact .inl ⟨d, o, hb, hw, rfl⟩

theorem hget_some {H : Heap} {b : Nat} {o : AObj} (h : hget H b = o) (hl : o.live = true) : H[b]? = some o := by
  unfold hget at h
  split at h
  · rename_i x hx; rw [hx, h]
  · subst h; cases hl

end Go.Proofs.YtedemfmafdilmaaDoor.Ev
