/- Stepping through code by simp: equations of the weakest preconditions; only what decides the next step is looked into. Conditions: none. -/
import Derived.Test.YtedemfmafdilmaaDoorEvW
import Derived.Test.YtedemfmafdilmaaDoorEvC
namespace Go.Proofs.YtedemfmafdilmaaDoor.Ev
variable {T : Pg}

/-- A guarded step. -/
def WG (T : Pg) (v : Value) (want : Bool) (d : Option Nat) (op : AOp) (chk : List (Nat × Nat)) (rest : List AOper) (e : Env) (H : Heap) (Q : Post) : Prop :=
  match v with
  | .bool b => if b = want then WOps T (⟨d, op, none, chk⟩ :: rest) e H Q else WOps T rest (putO e d undef) H Q
  | _ => WOps T rest (putO e d undef) H Q

/-- A load that is laid before stores. -/
def WA (T : Pg) (b : Bool) (d : Option Nat) (op : AOp) (rest : List AOper) (e : Env) (H : Heap) (Q : Post) : Prop :=
  if b = true then WR T (WOps T rest) (aop e H op) d e H Q else False


/-- A branch; the two ways stay as they are till it is known which. -/
def WB (T : Pg) (v : Value) (a b : ACode) (e : Env) (H : Heap) (Q : Post) : Prop := WIf v (WC T a e H Q) (WC T b e H Q)

theorem wops_nil (e : Env) (H : Heap) (Q : Post) : WOps T [] e H Q = Q .norm e H := propext ⟨fun h => h, fun h => h⟩
theorem wops_cons (d : Option Nat) (op : AOp) (rest : List AOper) (e : Env) (H : Heap) (Q : Post) : WOps T (⟨d, op, none, []⟩ :: rest) e H Q = WR T (WOps T rest) (aop e H op) d e H Q := by
  simp only [WOps, wantedA, apartOK, if_true]
theorem wops_guard (d : Option Nat) (op : AOp) (t : Nat) (want : Bool) (chk : List (Nat × Nat)) (rest : List AOper) (e : Env) (H : Heap) (Q : Post) :
    WOps T (⟨d, op, some (t, want), chk⟩ :: rest) e H Q = WG T (get e t) want d op chk rest e H Q := by
  simp only [WOps, wantedA, WG]
  generalize get e t = v
  cases v <;> simp
  rename_i b
  cases b <;> cases want <;> simp
theorem wops_chk (d : Option Nat) (op : AOp) (c : Nat × Nat) (chk : List (Nat × Nat)) (rest : List AOper) (e : Env) (H : Heap) (Q : Post) :
    WOps T (⟨d, op, none, c :: chk⟩ :: rest) e H Q = WA T (apartOK e H op (c :: chk)) d op rest e H Q := by
  simp only [WOps, wantedA, WA]
theorem wg_true (d : Option Nat) (op : AOp) (chk : List (Nat × Nat)) (rest : List AOper) (e : Env) (H : Heap) (Q : Post) : WG T (.bool true) true d op chk rest e H Q = WOps T (⟨d, op, none, chk⟩ :: rest) e H Q := propext ⟨fun h => h, fun h => h⟩
theorem wg_false (d : Option Nat) (op : AOp) (chk : List (Nat × Nat)) (rest : List AOper) (e : Env) (H : Heap) (Q : Post) : WG T (.bool false) false d op chk rest e H Q = WOps T (⟨d, op, none, chk⟩ :: rest) e H Q := propext ⟨fun h => h, fun h => h⟩
theorem wg_tf (d : Option Nat) (op : AOp) (chk : List (Nat × Nat)) (rest : List AOper) (e : Env) (H : Heap) (Q : Post) : WG T (.bool true) false d op chk rest e H Q = WOps T rest (putO e d undef) H Q := propext ⟨fun h => h, fun h => h⟩
theorem wg_ft (d : Option Nat) (op : AOp) (chk : List (Nat × Nat)) (rest : List AOper) (e : Env) (H : Heap) (Q : Post) : WG T (.bool false) true d op chk rest e H Q = WOps T rest (putO e d undef) H Q := propext ⟨fun h => h, fun h => h⟩
theorem wg_undef (want : Bool) (d : Option Nat) (op : AOp) (chk : List (Nat × Nat)) (rest : List AOper) (e : Env) (H : Heap) (Q : Post) : WG T undef want d op chk rest e H Q = WOps T rest (putO e d undef) H Q := propext ⟨fun h => h, fun h => h⟩
theorem putO_some (e : Env) (d : Nat) (v : Value) : putO e (some d) v = put e d v := rfl
theorem putO_none (e : Env) (v : Value) : putO e none v = e := rfl
theorem wa_true (d : Option Nat) (op : AOp) (rest : List AOper) (e : Env) (H : Heap) (Q : Post) : WA T true d op rest e H Q = WR T (WOps T rest) (aop e H op) d e H Q := propext ⟨fun h => h, fun h => h⟩
theorem wr_val (next : Env → Heap → Post → Prop) (v : Value) (H' : Heap) (d : Nat) (e : Env) (H : Heap) (Q : Post) : WR T next (.val v H') (some d) e H Q = next (put e d v) H' Q := propext ⟨fun h => h, fun h => h⟩
theorem wr_val0 (next : Env → Heap → Post → Prop) (v : Value) (H' : Heap) (e : Env) (H : Heap) (Q : Post) : WR T next (.val v H') none e H Q = next e H' Q := propext ⟨fun h => h, fun h => h⟩
theorem wr_skip0 (next : Env → Heap → Post → Prop) (H' : Heap) (e : Env) (H : Heap) (Q : Post) : WR T next (.skip H') none e H Q = next e H' Q := propext ⟨fun h => h, fun h => h⟩
theorem wr_pan (next : Env → Heap → Post → Prop) (v : Value) (d : Option Nat) (e : Env) (H : Heap) (Q : Post) : WR T next (.pan v) d e H Q = Q (.pan v) e H := propext ⟨fun h => h, fun h => h⟩

theorem wr_call (next : Env → Heap → Post → Prop) (f : FuncId) (args : List Value) (d : Option Nat) (e : Env) (H : Heap) (Q : Post) : WR T next (.call f args) d e H Q = WD T f args H (callK next d e Q) := propext ⟨fun h => h, fun h => h⟩
theorem callK_ret (next : Env → Heap → Post → Prop) (d : Nat) (e : Env) (Q : Post) (v : Value) (H : Heap) : callK next (some d) e Q (.ret v) H = next (put e d v) H Q := propext ⟨fun h => h, fun h => h⟩
theorem callK_ret0 (next : Env → Heap → Post → Prop) (e : Env) (Q : Post) (v : Value) (H : Heap) : callK next none e Q (.ret v) H = next e H Q := propext ⟨fun h => h, fun h => h⟩

theorem wc_skip (e : Env) (H : Heap) (Q : Post) : WC T .skip e H Q = Q .norm e H := propext ⟨fun h => h, fun h => h⟩
theorem wc_ops (l : List AOper) (e : Env) (H : Heap) (Q : Post) : WC T (.ops l) e H Q = WOps T l e H Q := propext ⟨fun h => h, fun h => h⟩
theorem wc_seq (a b : ACode) (e : Env) (H : Heap) (Q : Post) : WC T (.seq a b) e H Q = WC T a e H (seqK (WC T b) Q) := propext ⟨fun h => h, fun h => h⟩
theorem wc_cond (c : Operand) (a b : ACode) (e : Env) (H : Heap) (Q : Post) : WC T (.cond c a b) e H Q = WB T (aev e c) a b e H Q := propext ⟨fun h => h, fun h => h⟩
theorem wc_block (id : Nat) (c : ACode) (e : Env) (H : Heap) (Q : Post) : WC T (.block id c) e H Q = WC T c e H (blockK id Q) := propext ⟨fun h => h, fun h => h⟩
theorem wc_exit (id : Nat) (e : Env) (H : Heap) (Q : Post) : WC T (.exit id) e H Q = Q (.exit id) e H := propext ⟨fun h => h, fun h => h⟩
theorem wc_ret (e : Env) (H : Heap) (Q : Post) : WC T .ret e H Q = Q .ret e H := propext ⟨fun h => h, fun h => h⟩
theorem wc_loop (c : ACode) (e : Env) (H : Heap) (Q : Post) : WC T (.loop c) e H Q = WLoop T c e H Q := propext ⟨fun h => h, fun h => h⟩
theorem seqK_norm (n : Env → Heap → Post → Prop) (Q : Post) (e : Env) (H : Heap) : seqK n Q .norm e H = n e H Q := propext ⟨fun h => h, fun h => h⟩
theorem seqK_ret (n : Env → Heap → Post → Prop) (Q : Post) (e : Env) (H : Heap) : seqK n Q .ret e H = Q .ret e H := propext ⟨fun h => h, fun h => h⟩
theorem seqK_exit (n : Env → Heap → Post → Prop) (Q : Post) (i : Nat) (e : Env) (H : Heap) : seqK n Q (.exit i) e H = Q (.exit i) e H := propext ⟨fun h => h, fun h => h⟩
theorem seqK_pan (n : Env → Heap → Post → Prop) (Q : Post) (v : Value) (e : Env) (H : Heap) : seqK n Q (.pan v) e H = Q (.pan v) e H := propext ⟨fun h => h, fun h => h⟩
theorem blockK_norm (id : Nat) (Q : Post) (e : Env) (H : Heap) : blockK id Q .norm e H = Q .norm e H := propext ⟨fun h => h, fun h => h⟩
theorem blockK_ret (id : Nat) (Q : Post) (e : Env) (H : Heap) : blockK id Q .ret e H = Q .ret e H := propext ⟨fun h => h, fun h => h⟩
theorem blockK_pan (id : Nat) (Q : Post) (v : Value) (e : Env) (H : Heap) : blockK id Q (.pan v) e H = Q (.pan v) e H := propext ⟨fun h => h, fun h => h⟩
theorem blockK_same (id : Nat) (Q : Post) (e : Env) (H : Heap) : blockK id Q (.exit id) e H = Q .norm e H := by simp [blockK]
theorem blockK_other {id i : Nat} (h : i ≠ id) (Q : Post) (e : Env) (H : Heap) : blockK id Q (.exit i) e H = Q (.exit i) e H := by simp [blockK, h]
theorem blockK_exit (id i : Nat) (Q : Post) (e : Env) (H : Heap) : blockK id Q (.exit i) e H = if i = id then Q .norm e H else Q (.exit i) e H := propext ⟨fun h => h, fun h => h⟩
theorem wb_true (a b : ACode) (e : Env) (H : Heap) (Q : Post) : WB T (.bool true) a b e H Q = WC T a e H Q := propext ⟨fun h => h, fun h => h⟩
theorem wb_false (a b : ACode) (e : Env) (H : Heap) (Q : Post) : WB T (.bool false) a b e H Q = WC T b e H Q := propext ⟨fun h => h, fun h => h⟩
theorem wg_bool {b : Bool} {want : Bool} {d : Option Nat} {op : AOp} {chk : List (Nat × Nat)} {rest : List AOper} {e : Env} {H : Heap} {Q : Post}
    (h1 : b = true → WG T (.bool true) want d op chk rest e H Q) (h2 : b = false → WG T (.bool false) want d op chk rest e H Q) : WG T (.bool b) want d op chk rest e H Q := by
  cases b
  · exact h2 rfl
  · exact h1 rfl
theorem wb_split {x : Bool} {a b : ACode} {e : Env} {H : Heap} {Q : Post} (h1 : x = true → WC T a e H Q) (h2 : x = false → WC T b e H Q) : WB T (.bool x) a b e H Q := by
  cases x
  · exact h2 rfl
  · exact h1 rfl
theorem wb_dec {p : Prop} [Decidable p] {a b : ACode} {e : Env} {H : Heap} {Q : Post} (h1 : p → WC T a e H Q) (h2 : ¬ p → WC T b e H Q) : WB T (.bool (decide p)) a b e H Q := by
  by_cases h : p
  · simp [h, WB, WIf, h1]
  · simp [h, WB, WIf, h2]
theorem wb_ndec {p : Prop} [Decidable p] {a b : ACode} {e : Env} {H : Heap} {Q : Post} (h1 : p → WC T b e H Q) (h2 : ¬ p → WC T a e H Q) : WB T (.bool !(decide p)) a b e H Q := by
  by_cases h : p
  · simp [h, WB, WIf, h1]
  · simp [h, WB, WIf, h2]

theorem get_same (e : Env) (d : Nat) (v : Value) : get (put e d v) d = v := by simp [get_put]
theorem get_other {d t : Nat} (h : d ≠ t) (e : Env) (v : Value) : get (put e d v) t = get e t := by
  rw [get_put, if_neg (fun x => h x.symm)]
theorem put_zero (v u : Value) (e : Env) : put (u :: e) 0 v = v :: e := rfl
theorem put_succ (v u : Value) (e : Env) (n : Nat) : put (u :: e) (n + 1) v = u :: put e n v := rfl
theorem put_succ8 (v a b c d f g h i : Value) (e : Env) (n : Nat) : put (a :: b :: c :: d :: f :: g :: h :: i :: e) (n + 8) v = a :: b :: c :: d :: f :: g :: h :: i :: put e n v := rfl
theorem get_succ8 (a b c d f g h i : Value) (e : Env) (n : Nat) : get (a :: b :: c :: d :: f :: g :: h :: i :: e) (n + 8) = get e n := rfl
theorem pad_zero (l : List Value) : pad 0 l = l := rfl
theorem pad_nil (n : Nat) : pad (n + 1) [] = undef :: pad n [] := rfl
theorem pad_cons (n : Nat) (v : Value) (l : List Value) : pad (n + 1) (v :: l) = v :: pad n l := rfl
theorem ex_env {e : Env} {F : (Nat → Value) → Env} (h : e = F (get e)) : ∃ x, e = F x := ⟨get e, h⟩
/-- Cells of which some are known. -/
def Fit : List (Option Value) → Env → Prop
  | [], e => e = []
  | some v :: l, e => ∃ e', e = v :: e' ∧ Fit l e'
  | none :: l, e => ∃ u e', e = u :: e' ∧ Fit l e'
theorem get_nil (t : Nat) : get [] t = undef := by cases t <;> rfl
theorem get_zero (v : Value) (e : Env) : get (v :: e) 0 = v := rfl
theorem get_succ (v : Value) (e : Env) (t : Nat) : get (v :: e) (t + 1) = get e t := rfl

theorem aev_tmp (e : Env) (t : Nat) : aev e (.tmp t) = get e t := rfl
theorem aev_const (e : Env) (v : Value) : aev e (.const v) = v := rfl
theorem aev_global (e : Env) (g : Nat) : aev e (.global g) = .pointer (some ⟨g, 0, none⟩) := rfl
theorem aev_func (e : Env) (f : Nat) : aev e (.func f) = .func (.func f) #[] #[] := rfl

theorem ofO_some (v : Value) (H : Heap) : ofO (some v) H = .val v H := rfl

theorem retK_ret (res : List AResult) (R : FRes → Heap → Prop) (e : Env) (H : Heap) : retK res R .ret e H = (match resultsL e H res with | some vs => R (.ret (pack vs)) H | none => False) := propext ⟨fun h => h, fun h => h⟩
theorem retK_norm (res : List AResult) (R : FRes → Heap → Prop) (e : Env) (H : Heap) : retK res R .norm e H = (match resultsL e H res with | some vs => R (.ret (pack vs)) H | none => False) := propext ⟨fun h => h, fun h => h⟩
theorem retK_pan (res : List AResult) (R : FRes → Heap → Prop) (v : Value) (e : Env) (H : Heap) : retK res R (.pan v) e H = R (.pan v) H := propext ⟨fun h => h, fun h => h⟩
theorem pack_one (v : Value) : pack [v] = v := rfl
theorem pack_two (u v : Value) (l : List Value) : pack (u :: v :: l) = .tuple (u :: v :: l).toArray := rfl
theorem pack_nil : pack [] = .tuple #[] := rfl

/-! Arithmetic. -/
theorem bin_add (k : IntKind) (a b : Int) : binV .add (.int k a) (.int k b) = some (.int k (k.wrap (a + b))) := by simp [binV, intBin, Op.intArith]; rfl
theorem bin_sub (k : IntKind) (a b : Int) : binV .sub (.int k a) (.int k b) = some (.int k (k.wrap (a - b))) := by simp [binV, intBin, Op.intArith]; rfl
theorem bin_mul (k : IntKind) (a b : Int) : binV .mul (.int k a) (.int k b) = some (.int k (k.wrap (a * b))) := by simp [binV, intBin, Op.intArith]; rfl
theorem bin_eql (k : IntKind) (a b : Int) : binV .eql (.int k a) (.int k b) = some (.bool (decide (a = b))) := by
  have : pr (Op.intCmp .eql a b) = some (.bool (a == b)) := rfl
  simp only [binV, intBin, if_true, this]
  rfl
theorem bin_neq (k : IntKind) (a b : Int) : binV .neq (.int k a) (.int k b) = some (.bool !(decide (a = b))) := by
  have : pr (Op.intCmp .neq a b) = some (.bool (a != b)) := rfl
  simp only [binV, intBin, if_true, this]
  rfl
theorem bin_lss (k : IntKind) (a b : Int) : binV .lss (.int k a) (.int k b) = some (.bool (decide (a < b))) := by simp [binV, intBin, Op.intCmp]; rfl
theorem bin_leq (k : IntKind) (a b : Int) : binV .leq (.int k a) (.int k b) = some (.bool (decide (a ≤ b))) := by simp [binV, intBin, Op.intCmp]; rfl
theorem bin_gtr (k : IntKind) (a b : Int) : binV .gtr (.int k a) (.int k b) = some (.bool (decide (b < a))) := by simp [binV, intBin, Op.intCmp]; rfl
theorem bin_geq (k : IntKind) (a b : Int) : binV .geq (.int k a) (.int k b) = some (.bool (decide (b ≤ a))) := by simp [binV, intBin, Op.intCmp]; rfl


/-! Cells. -/
theorem cof_int (k : IntKind) (x : Int) : cellsOf (.int k x) = [.int k x] := rfl
theorem cof_bool (b : Bool) : cellsOf (.bool b) = [.bool b] := rfl
theorem cof_string (b : ByteArray) : cellsOf (.string b) = [.string b] := rfl
theorem cof_ptr (b : Option Addr) : cellsOf (.pointer b) = [.pointer b] := rfl
theorem cof_sl (b : Option Addr) (l c : Nat) : cellsOf (.slice b l c) = [.slice b l c] := rfl
theorem cof_func (f : Fn) (a b : Array Value) : cellsOf (.func f a b) = [.func f a b] := rfl
theorem cof_nilFunc : cellsOf .nilFunc = [.nilFunc] := rfl
theorem cof_nilIface : cellsOf .nilIface = [.nilIface] := rfl
theorem cof_iface (t : TypeId) (v : Value) : cellsOf (.iface t v) = [.iface t v] := rfl
theorem cof_agg (l : List Value) : cellsOf (.agg l.toArray) = l := rfl
theorem one_int (k : IntKind) (x : Int) : oneCell (.int k x) = true := rfl
theorem one_bool (b : Bool) : oneCell (.bool b) = true := rfl
theorem one_string (b : ByteArray) : oneCell (.string b) = true := rfl
theorem one_ptr (b : Option Addr) : oneCell (.pointer b) = true := rfl
theorem one_sl (b : Option Addr) (l c : Nat) : oneCell (.slice b l c) = true := rfl
theorem one_func (f : Fn) (a b : Array Value) : oneCell (.func f a b) = true := rfl
theorem one_nilFunc : oneCell .nilFunc = true := rfl
theorem one_nilIface : oneCell .nilIface = true := rfl
theorem one_iface (t : TypeId) (v : Value) : oneCell (.iface t v) = true := rfl
theorem fill_nil (cs : List Value) : fillL cs [] = some cs := rfl
theorem fill_cons (cs : List Value) (o n : Nat) (v : Value) (l : List (Nat × Nat × Value)) : fillL cs ((o, n, v) :: l) = if (cellsOf v).length = n ∧ o + n ≤ cs.length then fillL (setL cs o (cellsOf v)) l else none := by rw [fillL]
theorem setL_nil (cs : List Value) (o : Nat) : setL cs o [] = cs := rfl
theorem setL_cons (cs : List Value) (o : Nat) (v : Value) (l : List Value) : setL cs o (v :: l) = setL (cs.set o v) (o + 1) l := rfl
theorem toList_mk (l : List Value) : l.toArray.toList = l := rfl
theorem agg_list (l : List Value) : (Array.mk l).toList = l := rfl

end Go.Proofs.YtedemfmafdilmaaDoor.Ev
