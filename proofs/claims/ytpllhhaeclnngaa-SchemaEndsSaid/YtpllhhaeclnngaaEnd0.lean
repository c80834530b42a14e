/- Parts of the proof: EvA, EvB, EvC, EvD, EvE, EvF, EvG, EvH, EvI, EvJ, EvK, EvL, EvM, EvMp, EvN, EvO, EvP, EvQ, EvR. Conditions: none. -/
import Derived.Calls
import Derived.Orders
import Derived.Still
import Derived.Defers
import Derived.Laws.Sem
import Derived.Laws.Cells
import Derived.Laws.World
import Derived.Laws.Strings
import Derived.MapKept
namespace Go.Proofs.Ytpllhhaeclnngaa.Ev
set_option maxRecDepth 100000
set_option linter.unusedSimpArgs false
set_option linter.unusedVariables false
section
/-- A text of such bytes. -/
def bs (l : List UInt8) : ByteArray := ⟨l.toArray⟩
abbrev Env := List Value
def get : Env → Nat → Value
 | [], _ => undef
 | v :: _, 0 => v
 | _ :: e, n + 1 => get e n
def put : Env → Nat → Value → Env
 | [], 0, v => [v]
 | [], n + 1, v => undef :: put [] n v
 | _ :: e, 0, v => v :: e
 | u :: e, n + 1, v => u :: put e n v
/-- Values without addresses. -/
def closed1 : Value → Bool
 | .bool _ | .int _ _ | .float _ _ | .string _ | .pointer none | .slice none 0 0 | .map none | .nilFunc | .nilIface => true
 | _ => false
def closedV : Value → Bool
 | .agg cs => cs.toList.all closed1
 | .tuple cs => cs.toList.all closed1
 | .func (.func _) f c => f.toList.isEmpty && c.toList.isEmpty
 | v => closed1 v
def oneCell : Value → Bool
 | .agg _ | .tuple _ => false
 | _ => true
/-- How two values of a type are told apart. -/
inductive EqT where
 | prim
 | ptr
 | nilOnly
 | struct (fs : List (Nat × Nat × Bool))
 deriving Inhabited
/-- How the keys of a map are told apart. -/
inductive KeyT where
 | prim (tag : Nat)
 | flat (sz : Nat) (fs : List (Nat × Nat))
 deriving Inhabited
inductive AOp where
 | mov (x : Operand)
 | pick (c a b : Operand)
 | alloc (zero : List Value)
 | box (x : Operand)
 | build (zero : List Value) (parts : List (Nat × Nat × Operand))
 | buildSlice (unit len : Nat) (cells : List Value) (parts : List (Nat × Nat × Operand))
 | load1 (x : Operand)
 | loadN (n : Nat) (x : Operand)
 | store (n : Nat) (a x : Operand)
 | nilChk (x : Operand)
 | bin (op : BinOp) (x y : Operand)
 | eqb (neg : Bool) (x y : Operand)
 | eqp (kind : Nat) (neg : Bool) (x y : Operand)
 | eqs (neg : Bool) (sz : Nat) (fs : List (Nat × Nat)) (x y : Operand)
 | un (op : UnOp) (x : Operand)
 | conv (k : IntKind) (x : Operand)
 | idStr (x : Operand)
 | s2b (x : Operand)
 | b2s (x : Operand)
 | mkIface (t : TypeId) (x : Operand)
 | mkFunc (fn : FuncId) (first captured : List Operand)
 | mkSlice (unit bytes : Nat) (zero : List Value) (l c : Operand)
 | slStr (x : Operand) (lo hi : Option Operand)
 | slSl (unit : Nat) (x : Operand) (lo hi : Option Operand)
 | slArr (n unit : Nat) (x : Operand) (lo hi : Option Operand)
 | fAddr (off : Nat) (x : Operand)
 | field1 (off : Nat) (x : Operand)
 | fieldN (off n : Nat) (x : Operand)
 | iAddrArr (len unit : Nat) (x i : Operand)
 | iAddrSl (unit : Nat) (x i : Operand)
 | idxStr (x i : Operand)
 | idxArr1 (len : Nat) (x i : Operand)
 | idxArrN (len n : Nat) (x i : Operand)
 | rng (x : Operand)
 | nxt (x : Operand)
 | extract (x : Operand) (i : Nat)
 | tAssert (t : TypeId) (x : Operand)
 | lenStr (x : Operand)
 | lenSl (x : Operand)
 | lenK (n : Nat)
 | append (unit bytes : Nat) (s x : Operand)
 | copy (unit : Nat) (d s : Operand)
 | mm (big : Bool) (xs : List Operand)
 | callv (f : Operand) (args : List Operand)
 | panic (x : Operand)
 | mkMap
 | lookup (kt : KeyT) (zero : Value) (ok : Bool) (x i : Operand)
 | mapUpd (kt : KeyT) (m k v : Operand)
 | tAssert2 (t : TypeId) (zero : Value) (x : Operand)
structure AOper where
 dst : Option Nat
 op : AOp
 guard : Option (Nat × Bool)
 chk : List (Nat × Nat)
inductive ACode where
 | skip
 | ops (l : List AOper)
 | seq (a b : ACode)
 | cond (c : Operand) (a b : ACode)
 | block (id : Nat) (c : ACode)
 | loop (c : ACode)
 | exit (id : Nat)
 | ret
 | range (f : Operand) (ps : List Nat) (cz bd : ACode)
/-- A block: a row of cells (unit: how many cells an element has, 0: no slice was made of it by make or append; wr: the code may write there), an iterator over a text, a map's entries, the record of a range over a function (the program and how many variables it has; pe: the jump that is pending: none, ret, an exit), nothing. -/
inductive AObj where
 | row (cs : List Value) (unit : Nat) (wr : Bool)
 | iter (s : ByteArray) (pos : Nat)
 | loop (P : Program) (G : Nat) (st : LoopState) (pe : Option (Option Nat)) (env : List Value) (ps : List Nat) (cz bd : ACode)
 | map (es : List (Value × Value))
 | dead
abbrev Heap := List AObj
def hget (H : Heap) (b : Nat) : AObj :=
 match H[b]? with
 | some o => o
 | none => .dead
def AObj.wrt : AObj → Bool
 | .row _ _ wr => wr
 | .iter _ _ => true
 | .loop .. => true
 | .map _ => true
 | .dead => false
def AObj.live : AObj → Bool
 | .dead => false
 | _ => true
inductive AResult where
 | tmp (t : Nat)
 | cell1 (t : Nat)
 | cellN (t n : Nat)
/-- Code that defers one call of a closure, and what comes behind it. -/
inductive ADef where
 | here (t : Nat) (g : FuncId) (cap : List Operand) (rest : ACode)
 | pre (a : ACode) (d : ADef)
inductive AFunc where
 | code (n : Nat) (body : ACode) (res : List AResult)
 | dfr (n : Nat) (body : ADef) (res : List AResult)
 | rcv (n : Nat) (t : Nat) (al : List AOper) (rest : ACode)
 | ext (g : List Value → Option Value)
 | lib (g : List Value → Heap → Option Value)
inductive ARes where
 | val (v : Value) (H : Heap)
 | skip (H : Heap)
 | call (f : FuncId) (args : List Value)
 | yield (b : Nat) (args : List Value)
 | pan (v : Value)
 | no
inductive AExit where
 | norm
 | exit (id : Nat)
 | ret
 | pan (v : Value)
inductive FRes where
 | ret (v : Value)
 | pan (v : Value)
def aev (e : Env) : Operand → Value
 | .tmp t => get e t
 | .const v => v
 | .global g => .pointer (some ⟨g, 0, none⟩)
 | .func f => .func (.func f) #[] #[]
/-- What a run that asks nothing of the world answers. -/
def pr {α : Type} : Sem α → Option α
 | .pure a => some a
 | _ => none
def strBin (op : BinOp) (x y : ByteArray) : Option Value :=
 match op with
 | .add => if x.size + y.size ≤ 4611686018427387904 then some (.string (x ++ y)) else none
 | .eql => some (.bool (x.data.toList == y.data.toList))
 | .neq => some (.bool !(x.data.toList == y.data.toList))
 | .lss => some (.bool (Op.bytesLess x.data.toList y.data.toList))
 | .leq => some (.bool (Op.bytesLess x.data.toList y.data.toList || x.data.toList == y.data.toList))
 | .gtr => some (.bool !(Op.bytesLess x.data.toList y.data.toList || x.data.toList == y.data.toList))
 | .geq => some (.bool !(Op.bytesLess x.data.toList y.data.toList))
 | _ => none
def intBin (op : BinOp) (k : IntKind) (a : Int) (k' : IntKind) (b : Int) : Option Value :=
 match op with
 | .shl | .shr => if b < 0 then none else pr (Op.shift op k a k' b)
 | .add | .sub | .mul => if k = k' then pr (Op.intArith op k a b) else none
 | .quo | .rem => if k = k' then (if b = 0 then none else pr (Op.intDiv op k a b)) else none
 | .and | .or | .xor | .andNot => if k = k' then pr (Op.intBits op k a b) else none
 | _ => if k = k' then pr (Op.intCmp op a b) else none
def binV (op : BinOp) (x y : Value) : Option Value :=
 match x, y with
 | .int k a, .int k' b => intBin op k a k' b
 | .string a, .string b => strBin op a b
 | _, _ => none
/-- Equality of two cells of numbers, texts, bools. -/
def eq1 (x y : Value) : Option Bool :=
 match x, y with
 | .bool a, .bool b => some (a == b)
 | .int k a, .int k' b => if k = k' then some (a == b) else none
 | .string a, .string b => some (a.data.toList == b.data.toList)
 | _, _ => none
/-- Equality at a kind: 0 a bool, 1 a number, 2 a text. -/
def eqT1 (tag : Nat) (x y : Value) : Option Bool :=
 match tag, x, y with
 | 0, .bool a, .bool b => some (a == b)
 | 1, .int k a, .int k' b => if k = k' then some (a == b) else none
 | 2, .string a, .string b => some (a.data.toList == b.data.toList)
 | _, _, _ => none
def KeyT.isPrim : KeyT → Bool
 | .prim _ => true
 | _ => false
/-- A value that may be such a key. -/
def keyOk (kt : KeyT) (x : Value) : Bool :=
 match kt, x with
 | .prim 0, .bool _ => true
 | .prim 1, .int _ _ => true
 | .prim 2, .string _ => true
 | .flat sz _, .agg a => a.toList.length == sz
 | _, _ => false
def eqL : List (Nat × Value × Value) → Option Bool
 | [] => some true
 | (t, x, y) :: l =>
  match eqT1 t x y with
  | some true => eqL l
  | some false => some false
  | none => none
def keyEq (kt : KeyT) (x y : Value) : Option Bool :=
 match kt with
 | .prim tag => eqT1 tag x y
 | .flat sz fs =>
  match x, y with
  | .agg a, .agg b => if a.toList.length = sz ∧ b.toList.length = sz then eqL (fs.map fun f => (f.2, a.toList.getD f.1 undef, b.toList.getD f.1 undef)) else none
  | _, _ => none
def findK (kt : KeyT) (k : Value) : List (Value × Value) → Nat → Option (Option (Nat × Value))
 | [], _ => some none
 | e :: es, i =>
  match keyEq kt k e.1 with
  | some true => some (some (i, e.2))
  | some false => findK kt k es (i + 1)
  | none => none
def unitRow : AObj → Bool
 | .row cs 0 true => cs.length != 0
 | _ => false
/-- Are two places one (kind 0), a list nil (1), a function nil (2)? -/
def eqPtr (H : Heap) (x y : Value) : Option Bool :=
 match x, y with
 | .pointer none, .pointer none => some true
 | .pointer none, .pointer (some _) => some false
 | .pointer (some _), .pointer none => some false
 | .pointer (some ⟨b, o, none⟩), .pointer (some ⟨c, p, none⟩) =>
  if b = c then some (o == p)
  else if unitRow (hget H b) && unitRow (hget H c) then some false else none
 | _, _ => none
def eqSl (x y : Value) : Option Bool :=
 match x, y with
 | .slice none _ _, .slice none _ _ => some true
 | .slice none _ _, .slice (some _) _ _ => some false
 | .slice (some _) _ _, .slice none _ _ => some false
 | _, _ => none
def eqFn (x y : Value) : Option Bool :=
 match x, y with
 | .nilFunc, .nilFunc => some true
 | .nilFunc, .func _ _ _ => some false
 | .func _ _ _, .nilFunc => some false
 | _, _ => none
def eqP (H : Heap) (kind : Nat) (x y : Value) : Option Bool :=
 match kind with
 | 0 => eqPtr H x y
 | 1 => eqSl x y
 | _ => eqFn x y
def setL : List Value → Nat → List Value → List Value
 | cs, _, [] => cs
 | cs, o, v :: vs => setL (cs.set o v) (o + 1) vs
def cellsOf (v : Value) : List Value :=
 match v with
 | .agg cs => cs.toList
 | v => [v]
def fillL : List Value → List (Nat × Nat × Value) → Option (List Value)
 | cs, [] => some cs
 | cs, (off, n, v) :: l =>
  if (cellsOf v).length = n ∧ off + n ≤ cs.length then fillL (setL cs off (cellsOf v)) l else none
/-- The cells of a list's first so many elements. -/
def srcCells (H : Heap) (unit : Nat) (n : Nat) (x : Value) : Option (List Value) :=
 match x with
 | .slice (some ⟨b, o, none⟩) _ _ =>
  match hget H b with
  | .row cs _ _ => if o + n * unit ≤ cs.length then some ((cs.drop o).take (n * unit)) else none
  | _ => none
 | .slice none _ _ => if n = 0 then some [] else none
 | .slice (some ⟨_, _, some _⟩) _ _ => if n = 0 then some [] else none
 | .string s => if n ≤ s.size then some ((s.data.toList.take n).map fun b => .int .u8 b.toNat) else none
 | _ => none
def lenV : Value → Option Nat
 | .slice _ n _ => some n
 | .string s => some s.size
 | _ => none
def roomMax : Nat := 140737488355328
def appendV (H : Heap) (unit bytes : Nat) (s x : Value) : ARes :=
 match lenV x with
 | none => .no
 | some n =>
  match srcCells H unit n x, s with
  | some new, .slice none 0 0 =>
   if n = 0 then .val (.slice none 0 0) H
   else if n * bytes ≤ roomMax ∧ n ≤ roomMax then .val (.slice (some ⟨H.length, 0, none⟩) n n) (H ++ [.row new unit true])
   else .no
  | some new, .slice (some ⟨b, o, none⟩) l c =>
   if n = 0 then .val s H else
   match hget H b with
   | .row cs u true =>
    if u = unit ∧ l ≤ c ∧ o + c * unit ≤ cs.length ∧ new.length = n * unit then
     if l + n ≤ c then
      if new.all oneCell then .val (.slice (some ⟨b, o, none⟩) (l + n) c) (H.set b (.row (setL cs (o + l * unit) new) u true)) else .no
     else if (l + n) * bytes ≤ roomMax ∧ l + n ≤ roomMax ∧ new.all oneCell then
      .val (.slice (some ⟨H.length, 0, none⟩) (l + n) (l + n)) ((H.set b .dead) ++ [.row ((cs.drop o).take (l * unit) ++ new) unit true])
     else .no
    else .no
   | _ => .no
  | _, _ => .no
/-- A bound of a slice expression: between lo and hi. -/
def bound (e : Env) (x : Option Operand) (dflt most : Nat) : Option Nat :=
 match x with
 | none => some dflt
 | some x =>
  match aev e x with
  | .int _ i => if 0 ≤ i ∧ i ≤ most then some i.toNat else none
  | _ => none
def ofO : Option Value → Heap → ARes
 | some v, H => .val v H
 | none, _ => .no
def cutCells (cs : List Value) (o n : Nat) : List Value := (cs.drop o).take n
def mm2 (big : Bool) : Value → Value → Option Value
 | .int k x, .int k' y => if k = k' then some (.int k (if big then (if y > x then y else x) else (if y < x then y else x))) else none
 | _, _ => none
def mmL (big : Bool) : Value → List Value → Option Value
 | x, [] => some x
 | x, y :: l =>
  match mm2 big x y with
  | some z => mmL big z l
  | none => none
def bytesOf : List Value → Option (List UInt8)
 | [] => some []
 | .int .u8 n :: l => (bytesOf l).map fun r => UInt8.ofNat n.toNat :: r
 | _ => none
def aop (e : Env) (H : Heap) : AOp → ARes
 | .mov x => .val (aev e x) H
 | .pick c a b =>
  match aev e c with
  | .bool t => .val (if t then aev e a else aev e b) H
  | _ => .no
 | .alloc zero => .val (.pointer (some ⟨H.length, 0, none⟩)) (H ++ [.row zero 0 true])
 | .box x => .val (.pointer (some ⟨H.length, 0, none⟩)) (H ++ [.row (cellsOf (aev e x)) 0 true])
 | .build zero parts =>
  match fillL zero (parts.map fun p => (p.1, p.2.1, aev e p.2.2)) with
  | some cs => .val (.agg cs.toArray) H
  | none => .no
 | .buildSlice unit len cells parts =>
  match fillL cells (parts.map fun p => (p.1, p.2.1, aev e p.2.2)) with
  | some cs => .val (.slice (some ⟨H.length, 0, none⟩) len len) (H ++ [.row cs unit true])
  | none => .no
 | .load1 x =>
  match aev e x with
  | .pointer (some ⟨b, o, none⟩) =>
   match hget H b with
   | .row cs _ _ => ofO cs[o]? H
   | _ => .no
  | _ => .no
 | .loadN n x =>
  match aev e x with
  | .pointer (some ⟨b, o, none⟩) =>
   match hget H b with
   | .row cs _ _ => if o + n ≤ cs.length then .val (.agg (cutCells cs o n).toArray) H else .no
   | _ => .no
  | _ => .no
 | .store n a x =>
  match aev e a with
  | .pointer (some ⟨b, o, none⟩) =>
   match hget H b with
   | .row cs u true =>
    if (cellsOf (aev e x)).length = n ∧ o + n ≤ cs.length ∧ (cellsOf (aev e x)).all oneCell = true then .skip (H.set b (.row (setL cs o (cellsOf (aev e x))) u true)) else .no
   | _ => .no
  | _ => .no
 | .nilChk x =>
  match aev e x with
  | .pointer (some a) => .val (.pointer (some a)) H
  | .func (.func f) a b => .val (.func (.func f) a b) H
  | .func (.yield f) a b => .val (.func (.yield f) a b) H
  | .iface t v => .val (.iface t v) H
  | _ => .no
 | .bin op x y => ofO (binV op (aev e x) (aev e y)) H
 | .eqb neg x y => ofO ((eq1 (aev e x) (aev e y)).map fun b => .bool (b != neg)) H
 | .eqp kind neg x y => ofO ((eqP H kind (aev e x) (aev e y)).map fun b => .bool (b != neg)) H
 | .eqs neg sz fs x y =>
  match aev e x, aev e y with
  | .agg a, .agg b =>
   if a.toList.length ≠ sz ∨ b.toList.length ≠ sz then .no else
   ofO ((eqL (fs.map fun f => (f.2, a.toList.getD f.1 undef, b.toList.getD f.1 undef))).map fun b => .bool (b != neg)) H
  | _, _ => .no
 | .un op x =>
  match op, aev e x with
  | .neg, .int k n => ofO (pr (Op.intArith .sub k 0 n)) H
  | .xor, .int k n => ofO (pr (Op.intBits .xor k (if k.signed then -1 else k.max) n)) H
  | .not, .bool b => .val (.bool !b) H
  | _, _ => .no
 | .conv k x =>
  match aev e x with
  | .int _ n => .val (.int k (k.wrap n)) H
  | _ => .no
 | .idStr x =>
  match aev e x with
  | .string s => .val (.string s) H
  | _ => .no
 | .s2b x =>
  match aev e x with
  | .string s => .val (.slice (some ⟨H.length, 0, none⟩) s.size s.size) (H ++ [.row (s.data.toList.map fun b => .int .u8 b.toNat) 1 true])
  | _ => .no
 | .b2s x =>
  match lenV (aev e x) with
  | none => .no
  | some n =>
   match aev e x with
   | .slice _ _ _ =>
    match (srcCells H 1 n (aev e x)).bind bytesOf with
    | some l => .val (.string ⟨l.toArray⟩) H
    | none => .no
   | _ => .no
 | .mkIface t x => .val (.iface t (aev e x)) H
 | .mkFunc fn first captured => .val (.func (.func fn) (first.map (aev e)).toArray (captured.map (aev e)).toArray) H
 | .mkSlice unit bytes zero l c =>
  match aev e l, aev e c with
  | .int _ i, .int _ j =>
   if 0 ≤ i ∧ i ≤ j ∧ j.toNat * bytes ≤ roomMax ∧ j.toNat ≤ roomMax then
    .val (.slice (some ⟨H.length, 0, none⟩) i.toNat j.toNat) (H ++ [.row ((List.replicate j.toNat zero).flatten) unit true])
   else .no
  | _, _ => .no
 | .slStr x lo hi =>
  match aev e x with
  | .string s =>
   match bound e hi s.size s.size with
   | none => .no
   | some h =>
    match bound e lo 0 h with
    | none => .no
    | some l => .val (.string (s.extract l h)) H
  | _ => .no
 | .slSl unit x lo hi =>
  match aev e x with
  | .slice a len c =>
   match bound e hi len c with
   | none => .no
   | some h =>
    match bound e lo 0 h with
    | none => .no
    | some l =>
     match a with
     | none => .val (.slice none (h - l) (c - l)) H
     | some ⟨b, o, none⟩ => .val (.slice (some (if c = l ∧ l ≠ 0 then ⟨b, 0, some 0⟩ else ⟨b, o + l * unit, none⟩)) (h - l) (c - l)) H
     | some ⟨b, o, some k⟩ => .val (.slice (some ⟨b, o, some k⟩) (h - l) (c - l)) H
  | _ => .no
 | .slArr n unit x lo hi =>
  match aev e x with
  | .pointer (some ⟨b, o, none⟩) =>
   match bound e hi n n with
   | none => .no
   | some h =>
    match bound e lo 0 h with
    | none => .no
    | some l => .val (.slice (some (if n = l ∧ l ≠ 0 then ⟨b, 0, some 0⟩ else ⟨b, o + l * unit, none⟩)) (h - l) (n - l)) H
  | _ => .no
 | .fAddr off x =>
  match aev e x with
  | .pointer (some ⟨b, o, none⟩) => .val (.pointer (some ⟨b, o + off, none⟩)) H
  | _ => .no
 | .field1 off x =>
  match aev e x with
  | .agg cs => ofO cs.toList[off]? H
  | _ => .no
 | .fieldN off n x =>
  match aev e x with
  | .agg cs => if off + n ≤ cs.toList.length then .val (.agg (cutCells cs.toList off n).toArray) H else .no
  | _ => .no
 | .iAddrArr len unit x i =>
  match aev e x, aev e i with
  | .pointer (some ⟨b, o, none⟩), .int _ i => if 0 ≤ i ∧ i < len then .val (.pointer (some ⟨b, o + i.toNat * unit, none⟩)) H else .no
  | _, _ => .no
 | .iAddrSl unit x i =>
  match aev e x, aev e i with
  | .slice (some ⟨b, o, none⟩) len _, .int _ i => if 0 ≤ i ∧ i < len then .val (.pointer (some ⟨b, o + i.toNat * unit, none⟩)) H else .no
  | _, _ => .no
 | .idxStr x i =>
  match aev e x, aev e i with
  | .string s, .int _ i => if 0 ≤ i then ofO (s.data.toList[i.toNat]?.map fun b => .int .u8 b.toNat) H else .no
  | _, _ => .no
 | .idxArr1 len x i =>
  match aev e x, aev e i with
  | .agg cs, .int _ i => if 0 ≤ i ∧ i < len then ofO cs.toList[i.toNat]? H else .no
  | _, _ => .no
 | .idxArrN len n x i =>
  match aev e x, aev e i with
  | .agg cs, .int _ i => if 0 ≤ i ∧ i < len ∧ i.toNat * n + n ≤ cs.toList.length then .val (.agg (cutCells cs.toList (i.toNat * n) n).toArray) H else .no
  | _, _ => .no
 | .rng x =>
  match aev e x with
  | .string s => .val (.pointer (some ⟨H.length, 0, none⟩)) (H ++ [.iter s 0])
  | _ => .no
 | .nxt x =>
  match aev e x with
  | .pointer (some ⟨b, 0, none⟩) =>
   match hget H b with
   | .iter s pos =>
    if pos < s.size then
     .val (.tuple #[.bool true, .int .i64 pos, .int .i32 (Utf8.decode s pos).1]) (H.set b (.iter s (pos + (Utf8.decode s pos).2)))
    else .val (.tuple #[.bool false]) H
   | _ => .no
  | _ => .no
 | .extract x i =>
  match aev e x with
  | .tuple vs => ofO vs.toList[i]? H
  | _ => .no
 | .tAssert t x =>
  match aev e x with
  | .iface u v => if u = t then .val v H else .no
  | _ => .no
 | .lenStr x =>
  match aev e x with
  | .string s => .val (.int .i64 s.size) H
  | _ => .no
 | .lenSl x =>
  match aev e x with
  | .slice _ n _ => .val (.int .i64 n) H
  | _ => .no
 | .lenK n => .val (.int .i64 n) H
 | .append unit bytes s x => appendV H unit bytes (aev e s) (aev e x)
 | .copy unit d s =>
  match aev e d, lenV (aev e s) with
  | .slice (some ⟨b, o, none⟩) dl _, some n =>
   match hget H b with
   | .row cs u true =>
    match srcCells H unit (min n dl) (aev e s) with
    | some new =>
     if new.all oneCell = true ∧ o + new.length ≤ cs.length then .val (.int .i64 ((min n dl : Nat) : Int)) (H.set b (.row (setL cs o new) u true)) else .no
    | none => .no
   | _ => .no
  | .slice none 0 0, some _ => .val (.int .i64 0) H
  | _, _ => .no
 | .mm big xs =>
  match xs.map (aev e) with
  | [] => .no
  | x :: l => ofO (mmL big x l) H
 | .callv f args =>
  match aev e f with
  | .func (.func f) first captured => .call f (first.toList ++ args.map (aev e) ++ captured.toList)
  | .func (.yield b) _ _ => .yield b (args.map (aev e))
  | _ => .no
 | .panic x =>
  match aev e x with
  | .iface t v => .pan (.iface t v)
  | _ => .no
 | .mkMap => .val (.map (some H.length)) (H ++ [.map []])
 | .lookup kt zero ok x i =>
  match aev e x with
  | .map none => if keyOk kt (aev e i) then .val (if ok then .tuple #[zero, .bool false] else zero) H else .no
  | .map (some b) =>
   match hget H b with
   | .map es =>
    if keyOk kt (aev e i) then
     match findK kt (aev e i) es 0 with
     | some (some (_, v)) => .val (if ok then .tuple #[v, .bool true] else v) H
     | some none => .val (if ok then .tuple #[zero, .bool false] else zero) H
     | none => .no
    else .no
   | _ => .no
  | _ => .no
 | .mapUpd kt m k v =>
  match aev e m with
  | .map (some b) =>
   match hget H b with
   | .map es =>
    if keyOk kt (aev e k) then
     match findK kt (aev e k) es 0 with
     | some (some (i, _)) => if kt.isPrim then .skip (H.set b (.map (es.set i (aev e k, aev e v)))) else .no
     | some none => .skip (H.set b (.map (es ++ [(aev e k, aev e v)])))
     | none => .no
    else .no
   | _ => .no
  | _ => .no
 | .tAssert2 t zero x =>
  match aev e x with
  | .iface u v => if u = t then .val (.tuple #[v, .bool true]) H else .val (.tuple #[zero, .bool false]) H
  | .nilIface => .val (.tuple #[zero, .bool false]) H
  | _ => .no
abbrev CallFn := FuncId → List Value → Heap → Option (FRes × Heap)
def putO (e : Env) (d : Option Nat) (v : Value) : Env :=
 match d with
 | some d => put e d v
 | none => e
def wantedA (e : Env) : Option (Nat × Bool) → Option Bool
 | none => some true
 | some (t, want) =>
  match get e t with
  | .bool b => some (b == want)
  | _ => some false
/-- Do a load's cells and a store's lie apart? -/
def apart2 (H : Heap) (x : Value) (n : Nat) (y : Value) (m : Nat) : Bool :=
 match x, y with
 | .pointer (some ⟨b, o, none⟩), .pointer (some ⟨c, p, none⟩) =>
  (match hget H c with
   | .row cs _ true => decide (p + m ≤ cs.length)
   | _ => false) &&
  (if b = c then decide (o + n ≤ p) || decide (p + m ≤ o) else (hget H b).live)
 | _, _ => false
def apartOK (e : Env) (H : Heap) (op : AOp) : List (Nat × Nat) → Bool
 | [] => true
 | (t, m) :: l =>
  (match op with
   | .load1 x => apart2 H (aev e x) 1 (get e t) m
   | .loadN n x => apart2 H (aev e x) n (get e t) m
   | _ => false) && apartOK e H op l
/-! Blocks that a call must leave alone: while it runs nothing may write them. -/
def frz1 (H : Heap) (b : Nat) : Heap :=
 match hget H b with
 | .row cs u true => H.set b (.row cs u false)
 | _ => H
def frz (H : Heap) : List Nat → Heap
 | [] => H
 | b :: bs => frz (frz1 H b) bs
def thaw1 (H : Heap) (b : Nat) (K : Heap) : Heap :=
 match hget H b with
 | .row cs u true => K.set b (.row cs u true)
 | _ => K
def thaw (H : Heap) : List Nat → Heap → Heap
 | [], K => K
 | b :: bs, K => thaw1 H b (thaw (frz1 H b) bs K)
def AObj.isRow : AObj → Bool
 | .row _ _ _ => true
 | _ => false
def keepBs (e : Env) : List (Nat × Nat) → List Nat
 | [] => []
 | (t, _) :: l =>
  match get e t with
  | .pointer (some ⟨b, _, none⟩) => b :: keepBs e l
  | _ => keepBs e l
/-- A call, or what may write cells that nobody else sees. -/
def AOp.isCall : AOp → Bool
 | .callv _ _ => true
 | .append _ _ _ _ => true
 | _ => false
def AOp.isCallv : AOp → Bool
 | .callv _ _ => true
 | _ => false
/-- The blocks that an operation finds. -/
def frzO (e : Env) (H : Heap) (o : AOper) : Heap := if o.op.isCall then frz H (keepBs e o.chk) else H
def thawO (e : Env) (H : Heap) (o : AOper) (K : Heap) : Heap := if o.op.isCall then thaw H (keepBs e o.chk) K else K
def evalOps (cf : CallFn) : List AOper → Env → Heap → Option (AExit × Env × Heap)
 | [], e, H => some (.norm, e, H)
 | o :: rest, e, H =>
  match wantedA e o.guard with
  | none => none
  | some false => evalOps cf rest (putO e o.dst undef) H
  | some true =>
   if (if o.op.isCall then (keepBs e o.chk).all fun b => (hget H b).isRow else apartOK e H o.op o.chk) = false then none else
   match aop e (frzO e H o) o.op with
   | .val v H' => evalOps cf rest (putO e o.dst v) (thawO e H o H')
   | .skip H' => evalOps cf rest (putO e o.dst undef) (thawO e H o H')
   | .call f args =>
    match cf f args (frzO e H o) with
    | some (.ret v, H') => evalOps cf rest (putO e o.dst v) (thawO e H o H')
    | some (.pan v, H') => some (.pan v, e, thawO e H o H')
    | none => none
   | .yield _ _ => none
   | .pan v => some (.pan v, e, H)
   | .no => none
def iter : Nat → (Env → Heap → Option (AExit × Env × Heap)) → Env → Heap → Option (AExit × Env × Heap)
 | 0, _, _, _ => none
 | k + 1, f, e, H =>
  match f e H with
  | some (.norm, e', H') => iter k f e' H'
  | r => r
def evalCode (cf : CallFn) (k : Nat) : ACode → Env → Heap → Option (AExit × Env × Heap)
 | .skip, e, H => some (.norm, e, H)
 | .ops l, e, H => evalOps cf l e H
 | .seq a b, e, H =>
  match evalCode cf k a e H with
  | some (.norm, e', H') => evalCode cf k b e' H'
  | r => r
 | .cond c a b, e, H =>
  match aev e c with
  | .bool true => evalCode cf k a e H
  | .bool false => evalCode cf k b e H
  | _ => none
 | .block id c, e, H =>
  match evalCode cf k c e H with
  | some (.exit i, e', H') => if i = id then some (.norm, e', H') else some (.exit i, e', H')
  | r => r
 | .loop c, e, H => iter k (fun e H => evalCode cf k c e H) e H
 | .exit id, e, H => some (.exit id, e, H)
 | .ret, e, H => some (.ret, e, H)
 | .range _ _ _ _, _, _ => none
def resultOf (e : Env) (H : Heap) : AResult → Option Value
 | .tmp t => some (get e t)
 | .cell1 t =>
  match get e t with
  | .pointer (some ⟨b, o, none⟩) =>
   match hget H b with
   | .row cs _ _ => cs[o]?
   | _ => none
  | _ => none
 | .cellN t n =>
  match get e t with
  | .pointer (some ⟨b, o, none⟩) =>
   match hget H b with
   | .row cs _ _ => if o + n ≤ cs.length then some (.agg (cutCells cs o n).toArray) else none
   | _ => none
  | _ => none
def resultsL (e : Env) (H : Heap) : List AResult → Option (List Value)
 | [] => some []
 | r :: l =>
  match resultOf e H r, resultsL e H l with
  | some v, some vs => some (v :: vs)
  | _, _ => none
def pack : List Value → Value
 | [v] => v
 | vs => .tuple vs.toArray
def finish (res : List AResult) : Option (AExit × Env × Heap) → Option (FRes × Heap)
 | some (.norm, e, H) | some (.ret, e, H) =>
  match resultsL e H res with
  | some vs => some (.ret (pack vs), H)
  | none => none
 | some (.pan v, _, H) => some (.pan v, H)
 | _ => none
abbrev Table := FuncId → Option AFunc
/-- The cells of a call, all of them from the first: the arguments, then nothing. -/
def pad : Nat → List Value → List Value
 | 0, l => l
 | n + 1, [] => undef :: pad n []
 | n + 1, v :: l => v :: pad n l
/-- The closure that a call deferred, entered when the call returns (the value is nil) or panics: it recovers. -/
def evalRcv (T : Table) (cf : CallFn) (k : Nat) (g : FuncId) (caps : List Value) (rv : Value) (H : Heap) : Option Heap :=
 match T g with
 | some (.rcv n t al rest) =>
  if caps.length ≤ n then
   match evalOps cf al (put (pad n caps) t rv) H with
   | some (.norm, e, H') =>
    match evalCode cf k rest e H' with
    | some (.norm, _, H2) | some (.ret, _, H2) => some H2
    | _ => none
   | _ => none
  else none
 | _ => none
def resL (e : Env) (res : List AResult) (H : Heap) : Option (FRes × Heap) :=
 match resultsL e H res with
 | some vs => some (.ret (pack vs), H)
 | none => none
def evalDef (T : Table) (cf : CallFn) (k : Nat) (res : List AResult) : ADef → Env → Heap → Option (FRes × Heap)
 | .pre a d, e, H =>
  match evalCode cf k a e H with
  | some (.norm, e', H') => evalDef T cf k res d e' H'
  | _ => none
 | .here t g cap rest, e, H =>
  match evalCode cf k rest (put e t (.func (.func g) #[] (cap.map (aev e)).toArray)) H with
  | some (.norm, e1, H1) | some (.ret, e1, H1) => (evalRcv T cf k g (cap.map (aev e)) .nilIface H1).bind (resL e1 res)
  | some (.pan v, e1, H1) => (evalRcv T cf k g (cap.map (aev e)) v H1).bind (resL e1 res)
  | _ => none
def evalFn (T : Table) : Nat → CallFn
 | 0 => fun _ _ _ => none
 | k + 1 => fun f args H =>
  match T f with
  | some (.code n body res) => if args.length ≤ n then finish res (evalCode (evalFn T k) k body (pad n args) H) else none
  | some (.dfr n body res) => if args.length ≤ n then evalDef T (evalFn T k) k res body (pad n args) H else none
  | some (.rcv _ _ _ _) => none
  | some (.ext g) => (g args).map fun v => (.ret v, H)
  | some (.lib g) => (g args H).map fun v => (.ret v, H)
  | none => none
/-! ### From the model's code -/
def okO (N G : Nat) : Operand → Bool
 | .tmp t => t < N
 | .const v => closedV v
 | .global g => g < G
 | .func _ => true
def szOf (P : Program) (t : TypeId) : Option Nat := (P.info? t).map (·.size)
def bytesOfT (P : Program) (t : TypeId) : Option Nat := (P.info? t).map (·.bytes)
def zeroOf (P : Program) (t : TypeId) : Option (List Value) :=
 match (P.info? t).bind (·.zero) with
 | some z => if closedV z then some (cellsOf z) else none
 | none => none
def aggT (P : Program) (t : TypeId) : Option Bool :=
 match P.underlying t with
 | some (.struct _) | some (.array _ _) => some true
 | some _ => some false
 | none => none
/-- The flat places of a struct whose fields are all numbers, texts, bools: the place and the kind of each, in order. -/
def flatFields (fl : TypeId → Nat → Option (List (Nat × Nat))) (P : Program) (sz off : Nat) : List Field → Option (List (Nat × Nat))
 | [] => some []
 | f :: fs =>
  match szOf P f.type, flatFields fl P sz off fs with
  | some s, some m =>
   if f.name = "_" ∨ s = 0 ∨ ¬ f.offset + s ≤ sz then none else
   match fl f.type (off + f.offset) with
   | some l => some (l ++ m)
   | none => none
  | _, _ => none
def flatArr (fl : Nat → Option (List (Nat × Nat))) (s off : Nat) : List Nat → Option (List (Nat × Nat))
 | [] => some []
 | i :: l =>
  match fl (off + i * s), flatArr fl s off l with
  | some a, some m => some (a ++ m)
  | _, _ => none
def flatOf (P : Program) : Nat → TypeId → Nat → Option (List (Nat × Nat))
 | 0, _, _ => none
 | d + 1, t, off =>
  match P.underlying t with
  | some .bool => some [(off, 0)]
  | some (.int _) => some [(off, 1)]
  | some .string => some [(off, 2)]
  | some (.struct fs) =>
   if P.stoodInHeld t then none else
   match szOf P t with
   | some sz => flatFields (flatOf P d) P sz off fs.toList
   | none => none
  | some (.array n el) =>
   match szOf P el, szOf P t with
   | some s, some sz => if n * s ≤ sz ∧ s ≠ 0 then flatArr (flatOf P d el) s off (List.range' 0 n) else none
   | _, _ => none
  | _ => none
end
section
def optOk (N G : Nat) : Option Operand → Bool
 | none => true
 | some x => okO N G x
def partsOf (P : Program) (N G : Nat) (place : Nat → Option (Nat × Nat)) (parts : List (Nat × Operand)) : Option (List (Nat × Nat × Operand)) :=
 match parts with
 | [] => some []
 | (i, x) :: l =>
  match place i, partsOf P N G place l with
  | some (o, n), some m => if okO N G x then some ((o, n, x) :: m) else none
  | _, _ => none
def placesOf (P : Program) (fs : List Field) : Option (List (Nat × Nat)) :=
 match fs with
 | [] => some []
 | f :: l =>
  match szOf P f.type, placesOf P l with
  | some s, some m => some ((f.offset, s) :: m)
  | _, _ => none
def fitsFlat (P : Program) (t : TypeId) : Option (List (Nat × Nat)) :=
 if P.eqGuardType P.depth t then none else flatOf P 12 t 0
def isNeq : BinOp → Bool
 | .neq => true
 | _ => false
def prepBin (P : Program) (op : BinOp) (t : TypeId) (x y : Operand) : Option AOp :=
 match op with
 | .eql | .neq =>
  match P.underlying t with
  | some (.int _) | some .string => some (.bin op x y)
  | some .bool => some (.eqb (isNeq op) x y)
  | some (.pointer el) =>
   match szOf P el with
   | some (_ + 1) => some (.eqp 0 (isNeq op) x y)
   | _ => none
  | some (.slice _) => some (.eqp 1 (isNeq op) x y)
  | some (.func _ _ _) => some (.eqp 2 (isNeq op) x y)
  | some (.struct _) | some (.array _ _) => match fitsFlat P t, szOf P t with
   | some l, some sz => some (.eqs (isNeq op) sz l x y)
   | _, _ => none
  | _ => none
 | _ => some (.bin op x y)
/-- How keys of a type are told apart. -/
def keyT (P : Program) (t : TypeId) : Option KeyT :=
 match P.underlying t with
 | some .bool => some (.prim 0)
 | some (.int _) => some (.prim 1)
 | some .string => some (.prim 2)
 | some (.array n el) =>
  match P.underlying el with
  | some (.int _) =>
   match fitsFlat P t, szOf P t, szOf P el with
   | some l, some sz, some 1 => if n ≤ sz then some (.flat sz l) else none
   | _, _, _ => none
  | _ => none
 | _ => none
/-- A type's zero value, one without addresses. -/
def zeroVal (P : Program) (t : TypeId) : Option Value :=
 match (P.info? t).bind (·.zero) with
 | some z => if closedV z then some z else none
 | none => none
def prepMap (P : Program) (t : TypeId) (f : KeyT → TypeId → Option AOp) : Option AOp :=
 match P.underlying t with
 | some (.map key elem) =>
  match keyT P key with
  | some kt => f kt elem
  | none => none
 | _ => none
def prepCall (P : Program) (N G : Nat) (c : Call) : Option AOp :=
 if !(c.args.toList.all (okO N G)) then none else
 match c.callee with
 | .value f => if okO N G f then some (.callv f c.args.toList) else none
 | .invoke _ _ => none
 | .builtin .len =>
  match c.argTypes[0]?, c.args.toList with
  | some t, [x] =>
   match P.underlying t with
   | some .string => some (.lenStr x)
   | some (.slice _) => some (.lenSl x)
   | some (.array n _) => some (.lenK n)
   | some (.pointer a) =>
    match P.underlying a with
    | some (.array n _) => some (.lenK n)
    | _ => none
   | _ => none
  | _, _ => none
 | .builtin .append =>
  match c.argTypes[0]?, c.argTypes[1]?, c.args.toList with
  | some t, some u, [s, x] =>
   match P.underlying t, P.underlying u with
   | some (.slice el), some (.slice _) | some (.slice el), some .string =>
    match szOf P el, bytesOfT P el, zeroOf P el with
    | some (n + 1), some (b + 1), some z => if z.length = n + 1 then some (.append (n + 1) (b + 1) s x) else none
    | _, _, _ => none
   | _, _ => none
  | _, _, _ => none
 | .builtin .copy =>
  match c.argTypes[0]?, c.args.toList with
  | some t, [d, s] =>
   match P.underlying t with
   | some (.slice el) => (szOf P el).map fun n => .copy n d s
   | _ => none
  | _, _ => none
 | .builtin .max => some (.mm true c.args.toList)
 | .builtin .min => some (.mm false c.args.toList)
 | .builtin .panic =>
  match c.args.toList with
  | [x] => some (.panic x)
  | _ => none
 | _ => none
def prepOp (P : Program) (N G : Nat) (op : Op) : Option AOp :=
 match op with
 | .move x | .assign x => if okO N G x then some (.mov x) else none
 | .pick c a b => if okO N G c && okO N G a && okO N G b then some (.pick c a b) else none
 | .alloc t => (zeroOf P t).map .alloc
 | .box _ x => if okO N G x then some (.box x) else none
 | .build t parts =>
  match zeroOf P t, P.underlying t with
  | some z, some (.struct fs) =>
   match placesOf P fs.toList with
   | some pl => (partsOf P N G (fun i => pl[i]?) parts.toList).map (.build z)
   | none => none
  | some z, some (.array _ el) =>
   match szOf P el with
   | some s => (partsOf P N G (fun i => some (i * s, s)) parts.toList).map (.build z)
   | none => none
  | _, _ => none
 | .buildSlice t len parts =>
  match P.underlying t with
  | some (.slice el) =>
   match szOf P el, zeroOf P el with
   | some s, some z =>
    if 0 < s ∧ z.length = s ∧ 0 < len ∧ len * s ≤ 65536 then
     (partsOf P N G (fun i => some (i * s, s)) parts.toList).map (.buildSlice s len (List.replicate len z).flatten)
    else if 0 < s ∧ len = 0 then
     (partsOf P N G (fun i => some (i * s, s)) parts.toList).map (.buildSlice s len [])
    else none
   | _, _ => none
  | _ => none
 | .load t x =>
  if okO N G x then
   match aggT P t, szOf P t with
   | some true, some n => some (.loadN n x)
   | some false, _ => some (.load1 x)
   | _, _ => none
  else none
 | .store t a x => if okO N G a && okO N G x then (szOf P t).map fun n => .store n a x else none
 | .nilCheck x => if okO N G x then some (.nilChk x) else none
 | .binOp op t x y _ => if okO N G x && okO N G y then prepBin P op t x y else none
 | .unOp op _ x => if okO N G x then some (.un op x) else none
 | .convert src dst x =>
  if okO N G x then
   match P.underlying src, P.underlying dst with
   | some (.int _), some (.int k) => some (.conv k x)
   | some .string, some .string => some (.idStr x)
   | some .string, some (.slice el) =>
    match P.underlying el with
    | some (.int .u8) => some (.s2b x)
    | _ => none
   | some (.slice el), some .string =>
    match P.underlying el with
    | some (.int .u8) => some (.b2s x)
    | _ => none
   | _, _ => none
  else none
 | .makeInterface t x =>
  if okO N G x then
   match P.underlying t with
   | some (.interface _) => none
   | some _ => some (.mkIface t x)
   | none => none
  else none
 | .makeFunc (.func f) first captured => if first.toList.all (okO N G) && captured.toList.all (okO N G) then some (.mkFunc f first.toList captured.toList) else none
 | .makeSlice t l c =>
  if okO N G l && okO N G c then
   match P.underlying t with
   | some (.slice el) =>
    match szOf P el, bytesOfT P el, zeroOf P el with
    | some s, some b, some z => if 0 < s ∧ z.length = s then some (.mkSlice s b z l c) else none
    | _, _, _ => none
   | _ => none
  else none
 | .slice t x lo hi none =>
  if okO N G x && optOk N G lo && optOk N G hi then
   match P.underlying t with
   | some .string => some (.slStr x lo hi)
   | some (.slice el) => (szOf P el).map fun s => .slSl s x lo hi
   | some (.array n el) => (szOf P el).map fun s => .slArr n s x lo hi
   | some (.pointer a) =>
    match P.underlying a with
    | some (.array n el) => (szOf P el).map fun s => .slArr n s x lo hi
    | _ => none
   | _ => none
  else none
 | .fieldAddr t x i =>
  if okO N G x then
   match P.underlying t with
   | some (.struct fs) =>
    match fs[i]? with
    | some f =>
     match szOf P f.type with
     | some (_ + 1) => some (.fAddr f.offset x)
     | _ => none
    | none => none
   | _ => none
  else none
 | .field t x i =>
  if okO N G x then
   match P.underlying t with
   | some (.struct fs) =>
    match fs[i]? with
    | some f =>
     match aggT P f.type, szOf P f.type with
     | some true, some n => some (.fieldN f.offset n x)
     | some false, _ => some (.field1 f.offset x)
     | _, _ => none
    | none => none
   | _ => none
  else none
 | .indexAddr t x i =>
  if okO N G x && okO N G i then
   match P.underlying t with
   | some (.array n el) => (szOf P el).map fun s => .iAddrArr n s x i
   | some (.slice el) => (szOf P el).map fun s => .iAddrSl s x i
   | _ => none
  else none
 | .index t x i =>
  if okO N G x && okO N G i then
   match P.underlying t with
   | some .string => some (.idxStr x i)
   | some (.array n el) =>
    match aggT P el, szOf P el with
    | some true, some s => some (.idxArrN n s x i)
    | some false, some 1 => some (.idxArr1 n x i)
    | _, _ => none
   | _ => none
  else none
 | .range t x =>
  if okO N G x then
   match P.underlying t with
   | some .string => some (.rng x)
   | _ => none
  else none
 | .next x true => if okO N G x then some (.nxt x) else none
 | .extract x i => if okO N G x then some (.extract x i) else none
 | .typeAssert x _ t false =>
  if okO N G x then
   match P.underlying t with
   | some (.interface _) => none
   | some _ => some (.tAssert t x)
   | none => none
  else none
 | .call c => prepCall P N G c
 | .panic x => if okO N G x then some (.panic x) else none
 | .makeMap _ none => some .mkMap
 | .lookup t x i ok =>
  if okO N G x && okO N G i then prepMap P t fun kt el => (zeroVal P el).map fun z => .lookup kt z ok x i
  else none
 | .mapUpdate t m k v | .insert t m k v =>
  if okO N G m && okO N G k && okO N G v then prepMap P t fun kt _ => some (.mapUpd kt m k v)
  else none
 | .typeAssert x _ t true =>
  if okO N G x then
   match P.underlying t with
   | some (.interface _) => none
   | some _ => (zeroVal P t).map fun z => .tAssert2 t z x
   | none => none
  else none
 | _ => none
def dstOk (N : Nat) : Option Nat → Bool
 | none => true
 | some d => d < N
def prepOper (P : Program) (N G : Nat) (ops : Array Oper) (o : Oper) (chk : List (Nat × Nat)) : Option AOper :=
 match prepOp P N G o.op with
 | none => none
 | some op =>
  if dstOk N o.dst && chk.all (fun c => decide (c.1 < N)) then
   match o.guard with
   | none => some ⟨o.dst, op, none, chk⟩
   | some (j, want) =>
    match (ops[j]?).bind (·.dst) with
    | some t => if t < N then some ⟨o.dst, op, some (t, want), chk⟩ else none
    | none => none
  else none
def prepOps (P : Program) (N G : Nat) (ops : Array Oper) : List (Nat × List (Nat × Nat)) → Option (List AOper)
 | [] => some []
 | (i, chk) :: l =>
  match ops[i]? with
  | none => none
  | some o =>
   match prepOper P N G ops o chk, prepOps P N G ops l with
   | some a, some m => some (a :: m)
   | _, _ => none
/-! Regions that draw their order. -/
/-- An operation that asks no more of the world than to read cells, and leaves it alone. -/
def stillOp (P : Program) : Op → Bool
 | .move _ | .assign _ | .pick _ _ _ | .load _ _ | .extract _ _ | .nilCheck _ | .unOp _ _ _ | .fieldAddr _ _ _ | .indexAddr _ _ _ | .index _ _ _ | .makeInterface _ _ => true
 | .build _ _ => true
 | .field _ _ _ => true
 | .makeFunc _ _ _ => true
 | .slice t _ _ _ none =>
  match P.underlying t with
  | some .string | some (.slice _) | some (.array _ _) => true
  | _ => false
 | .binOp op t _ _ _ =>
  match P.underlying t with
  | some .bool | some (.int _) | some .string => true
  | _ =>
   match op with
   | .eql | .neq => false
   | _ => false
 | .convert s d _ =>
  match P.underlying s, P.underlying d with
  | some (.int _), some (.int _) => true
  | some .string, some .string => true
  | _, _ => false
 | .call c =>
  match c.callee with
  | .builtin .len =>
   match (c.argTypes[0]?).bind P.underlying with
   | some .string | some (.slice _) | some (.array _ _) => true
   | _ => false
  | _ => false
 | _ => false
def isLoad : Op → Bool
 | .load _ _ => true
 | _ => false
/-- It lays a block that nobody knows: it may be run before it comes in order. -/
def isA (o : Oper) : Bool := o.guard.isNone && o.dst.isSome && match o.op with
 | .alloc _ | .box _ _ => true
 | _ => false
/-- It writes no cell that is there. -/
def isAlloc3 (P : Program) : Op → Bool
 | .alloc _ | .box _ _ | .buildSlice _ _ _ => true
 | .convert s d _ =>
  match P.underlying s, P.underlying d with
  | some (.slice el), some .string =>
   match P.underlying el with
   | some (.int .u8) => true
   | _ => false
  | _, _ => false
 | _ => false
def isCallv : Op → Bool
 | .call c => match c.callee with | .value _ => true | .builtin .append => true | _ => false
 | _ => false
def isAat (ops : Array Oper) (i : Nat) : Bool := match ops[i]? with | some o => isA o | none => false
/-- One step of the canonical order: the first operation that is ready, still and no load; else the first load; else the only one that is ready (those aside that lay a block); else one of those. -/
def pickNext (P : Program) (ops : Array Oper) (listed : Array Bool) : Option Nat :=
 match (Region.ready .any ops listed).find? fun i => match ops[i]? with | some o => stillOp P o.op && !isLoad o.op | none => false with
 | some i => some i
 | none =>
  match (Region.ready .any ops listed).find? fun i => match ops[i]? with | some o => stillOp P o.op | none => false with
  | some i => some i
  | none =>
   match (Region.ready .any ops listed).filter fun i => !isAat ops i with
   | [i] => some i
   | [] => (Region.ready .any ops listed).head?
   | _ => none
/-- No operation that is not yet listed writes the slot. -/
def unwritten (ops : Array Oper) (listed : Array Bool) (t : Nat) : Bool :=
 (List.range ops.size).all fun k => listed.getD k true || (match ops[k]? with | some o => o.dst != some t | none => true)
/-- What must lie apart from what the load i reads: the places that stores not behind it write; none: it can't be told. -/
def chkOf (P : Program) (ops : Array Oper) (bef : Array Nat) (listed : Array Bool) (i : Nat) : List Nat → Option (List (Nat × Nat))
 | [] => some []
 | j :: l =>
  match chkOf P ops bef listed i l with
  | none => none
  | some m =>
   if j == i || listed.getD j true || (bef.getD j 0).testBit i then some m else
   match ops[j]? with
   | none => some m
   | some o =>
    if stillOp P o.op || isAlloc3 P o.op || isCallv o.op then some m else
    match o.op with
    | .store t (.tmp a) _ => if unwritten ops listed a then (szOf P t).map fun n => (a, n) :: m else none
    | _ => none
/-- Is there a call that may come first? -/
def flagged (ops : Array Oper) (bef : Array Nat) (listed : Array Bool) (i : Nat) : Bool :=
 (List.range ops.size).any fun j => j != i && !listed.getD j true && !(bef.getD j 0).testBit i && (match ops[j]? with | some o => isCallv o.op | none => false)
def loadAddr : Op → Option Nat
 | .load _ (.tmp t) => some t
 | _ => none
/-- The places of what was read ahead of a call that may come first. -/
def callChk (ops : Array Oper) (bef : Array Nat) (listed : Array Bool) (k : Nat) : List (Nat × Nat) :=
 (List.range ops.size).filterMap fun i => if listed.getD i false && !(bef.getD k 0).testBit i then (ops[i]?).bind fun o => (loadAddr o.op).map fun t => (t, 1) else none
/-- Those that lay a block, listed. -/
def listA (ops : Array Oper) (listed : Array Bool) (k : Nat) : Array Bool :=
 ((Region.ready .any ops listed).filter fun i => isAat ops i && i != k).foldl (fun l i => l.setIfInBounds i true) listed
def okOrder (P : Program) (ops : Array Oper) (bef : Array Nat) : List (Nat × List (Nat × Nat)) → Array Bool → Bool
 | [], listed => (Region.ready .any ops listed).isEmpty
 | (i, chk) :: l, listed =>
  (match ops[i]? with
   | some o =>
    (Region.ready .any ops listed).contains i &&
    ((Region.ready .any ops listed).all fun j => !isAat ops j || (Region.ready .any ops listed).all fun k => k == j || !(k == i || isAat ops k) || (match ops[j]?, ops[k]? with | some oj, some ok => oj.apart ops ok | _, _ => false)) &&
    (if stillOp P o.op then
     Region.free .any ops listed i &&
     (if isLoad o.op then (match chkOf P ops bef listed i (List.range ops.size) with | some c => c == chk | none => false) &&
      (!flagged ops bef listed i || (chk.isEmpty && (match loadAddr o.op with | some t => unwritten ops listed t | none => false))) else chk.isEmpty)
    else ((Region.ready .any ops (listA ops listed i)).all fun j => j == i) && (if isCallv o.op then callChk ops bef listed i == chk else chk.isEmpty))
   | none => false) && okOrder P ops bef l (listed.setIfInBounds i true)
def orderGo (P : Program) (ops : Array Oper) (bef : Array Nat) : Nat → Array Bool → List (Nat × List (Nat × Nat))
 | 0, _ => []
 | k + 1, listed =>
  match pickNext P ops listed with
  | some i => (i, match ops[i]? with
    | some o => if isLoad o.op then (match chkOf P ops bef listed i (List.range ops.size) with | some c => c | none => []) else if isCallv o.op then callChk ops bef listed i else []
    | none => []) :: orderGo P ops bef k (listed.setIfInBounds i true)
  | none => []
def orderOf (P : Program) (ops : Array Oper) : List (Nat × List (Nat × Nat)) := orderGo P ops (Region.before ops) ops.size (Array.replicate ops.size false)
def noDefer (ops : Array Oper) : Bool := ops.all fun o => match o.op with | .defer _ => false | _ => true
def allPrep (P : Program) (N G : Nat) (ops : Array Oper) : Bool := ops.all fun o => !isA o || (prepOp P N G o.op).isSome
def prepRegion (P : Program) (N G : Nat) (ops : Array Oper) (draw : Bool) : Option ACode :=
 if draw then
  if allPrep P N G ops = true ∧ (Region.noSelect ops = true ∧ noDefer ops = true) ∧ okOrder P ops (Region.before ops) (orderOf P ops) (Array.replicate ops.size false) = true then
   (prepOps P N G ops (orderOf P ops)).map .ops
  else none
 else (prepOps P N G ops ((List.range ops.size).map fun i => (i, []))).map .ops
def prepCode (P : Program) (N G : Nat) : Code → Option ACode
 | .skip => some .skip
 | .region _ ops draw => prepRegion P N G ops draw
 | .seq a b =>
  match prepCode P N G a, prepCode P N G b with
  | some x, some y => some (.seq x y)
  | _, _ => none
 | .cond c a b =>
  if okO N G c then
   match prepCode P N G a, prepCode P N G b with
   | some x, some y => some (.cond c x y)
   | _, _ => none
  else none
 | .block id c => (prepCode P N G c).map (.block id)
 | .loop c => (prepCode P N G c).map .loop
 | .exit id => some (.exit id)
 | .ret => some .ret
 | .rangeFunc f ps a b =>
  if okO N G f && ps.toList.all (fun t => decide (t < N)) then
   match prepCode P N G a, prepCode P N G b with
   | some x, some y => some (.range f ps.toList x y)
   | _, _ => none
  else none
 | _ => none
def prepRes (P : Program) (N : Nat) : List ResultVar → Option (List AResult)
 | [] => some []
 | .tmp t :: l =>
  match prepRes P N l with
  | some m => if t < N then some (.tmp t :: m) else none
  | none => none
 | .cell a t :: l =>
  match prepRes P N l, aggT P t, szOf P t with
  | some m, some true, some n => if a < N then some (.cellN a n :: m) else none
  | some m, some false, _ => if a < N then some (.cell1 a :: m) else none
  | _, _, _ => none
/-- No region that draws its order writes such a slot; calm: no range over a function. -/
def keepOk (calm : Bool) (keep : List Nat) : Code → Bool
 | .region _ ops true => ops.all fun o => match o.dst with | some d => !keep.contains d | none => true
 | .region _ _ false => true
 | .seq a b => keepOk calm keep a && keepOk calm keep b
 | .cond _ a b => keepOk calm keep a && keepOk calm keep b
 | .block _ c => keepOk calm keep c
 | .loop c => keepOk calm keep c
 | .rangeFunc _ _ _ _ => !calm
 | _ => true
/-- A region that makes a closure and defers a call of it. -/
def deferOf (N G : Nat) : Code → Option (Nat × FuncId × List Operand)
 | .region _ ops false =>
  match ops.toList with
  | [⟨some t, .makeFunc (.func g) first cap, _, _, _, none⟩, ⟨none, .defer ⟨.value (.tmp u), args, _⟩, _, _, _, none⟩] =>
   if t = u ∧ t < N ∧ first.toList.isEmpty ∧ args.toList.isEmpty ∧ cap.toList.all (okO N G) then some (t, g, cap.toList) else none
  | _ => none
 | _ => none
def prepDef (P : Program) (N G : Nat) : Code → Option ADef
 | .seq a b =>
  match deferOf N G a with
  | some (t, g, cap) => (prepCode P N G b).map (.here t g cap)
  | none =>
   if keepOk true [] a then
    match prepCode P N G a, prepDef P N G b with
    | some x, some y => some (.pre x y)
    | _, _ => none
   else none
 | _ => none
def recvOf : Oper → Option Nat
 | ⟨some t, .call ⟨.builtin .recover, _, _⟩, _, _, _, none⟩ => some t
 | _ => none
/-- Code that begins with a recover. -/
def prepRcv (P : Program) (N G : Nat) : Code → Option (Nat × List AOper × ACode)
 | .seq (.region _ ops false) b =>
  match (ops[0]?).bind recvOf with
  | some t =>
   match prepOps P N G ops ((List.range' 1 (ops.size - 1)).map fun i => (i, [])), prepCode P N G b with
   | some al, some r => if t < N ∧ keepOk true [] b then some (t, al, r) else none
   | _, _ => none
  | _ => none
 | _ => none
def ADef.rest : ADef → ACode
 | .here _ _ _ r => r
 | .pre _ d => d.rest
def AResult.slot : AResult → Nat
 | .tmp t => t
 | .cell1 t => t
 | .cellN t _ => t
def prepFn (P : Program) (G : Nat) (fn : Func) : Option AFunc :=
 match fn.body with
 | none => none
 | some c =>
  if fn.name == "runtime.NumGoroutine" then none else
  match prepRes P fn.ntmps fn.results.toList with
  | none => none
  | some r =>
   match prepCode P fn.ntmps G c with
   | some b => some (.code fn.ntmps b r)
   | none =>
    match prepDef P fn.ntmps G c with
    | some d => if keepOk false (r.map AResult.slot) c then some (.dfr fn.ntmps d r) else none
    | none =>
     match r, prepRcv P fn.ntmps G c with
     | [], some (t, al, b) => some (.rcv fn.ntmps t al b)
     | _, _ => none
end
section
structure Place where
 blk : Nat
 off : Nat
 ext : Nat
inductive VR (n : Nat) (ρ : Nat → Place) : Value → Value → Prop where
 | bool (b : Bool) : VR n ρ (.bool b) (.bool b)
 | int (k : IntKind) (x : Int) : VR n ρ (.int k x) (.int k x)
 | float (k : FloatKind) (x : Nat) : VR n ρ (.float k x) (.float k x)
 | string (s : ByteArray) : VR n ρ (.string s) (.string s)
 | ptrNil : VR n ρ (.pointer none) (.pointer none)
 | ptr (b o : Nat) (h : b < n) : VR n ρ (.pointer (some ⟨b, o, none⟩)) (.pointer (some ⟨(ρ b).blk, (ρ b).off + o, none⟩))
 | slNil : VR n ρ (.slice none 0 0) (.slice none 0 0)
 | sl (b o l c c' : Nat) (h : b < n) (h0 : l ≤ c) (h1 : c ≤ c') (h2 : c' ≤ c + (ρ b).ext) :
   VR n ρ (.slice (some ⟨b, o, none⟩) l c) (.slice (some ⟨(ρ b).blk, (ρ b).off + o, none⟩) l c')
 | slE (b o k : Nat) (a : Addr) (c' : Nat) : VR n ρ (.slice (some ⟨b, o, some k⟩) 0 0) (.slice (some a) 0 c')
 | mapNil : VR n ρ (.map none) (.map none)
 | mapSome (b : Nat) (h : b < n) : VR n ρ (.map (some b)) (.map (some (ρ b).blk))
 | nilFunc : VR n ρ .nilFunc .nilFunc
 | nilIface : VR n ρ .nilIface .nilIface
 | func (fn : FuncId) (f f' c c' : Array Value) (hf : f.size = f'.size) (hc : c.size = c'.size)
   (h1 : ∀ i (a : i < f.size) (b : i < f'.size), VR n ρ f[i] f'[i]) (h2 : ∀ i (a : i < c.size) (b : i < c'.size), VR n ρ c[i] c'[i]) :
   VR n ρ (.func (.func fn) f c) (.func (.func fn) f' c')
 | yield (b : Nat) (h : b < n) : VR n ρ (.func (.yield b) #[] #[]) (.func (.yield (ρ b).blk) #[] #[])
 | iface (t : TypeId) (v v' : Value) (h : VR n ρ v v') : VR n ρ (.iface t v) (.iface t v')
 | agg (c c' : Array Value) (hc : c.size = c'.size) (h : ∀ i (a : i < c.size) (b : i < c'.size), VR n ρ c[i] c'[i]) : VR n ρ (.agg c) (.agg c')
 | tuple (c c' : Array Value) (hc : c.size = c'.size) (h : ∀ i (a : i < c.size) (b : i < c'.size), VR n ρ c[i] c'[i]) : VR n ρ (.tuple c) (.tuple c')
theorem VR.mono {n n' : Nat} {ρ ρ' : Nat → Place} {v v' : Value} (h : VR n ρ v v') (hn : n ≤ n') (hρ : ∀ b, b < n → ρ' b = ρ b) : VR n' ρ' v v' := by
 induction h with
 | bool b => exact .bool b
 | int k x => exact .int k x
 | float k x => exact .float k x
 | string s => exact .string s
 | ptrNil => exact .ptrNil
 | ptr b o h => rw [← hρ b h]; exact .ptr b o (by omega)
 | slNil => exact .slNil
 | sl b o l c c' h h0 h1 h2 => rw [← hρ b h]; exact .sl b o l c c' (by omega) h0 h1 (by rw [hρ b h]; exact h2)
 | slE b o k a c' => exact .slE b o k a c'
 | mapNil => exact .mapNil
 | mapSome b h => rw [← hρ b h]; exact .mapSome b (by omega)
 | nilFunc => exact .nilFunc
 | nilIface => exact .nilIface
 | func fn f f' c c' hf hc h1 h2 i1 i2 => exact .func fn f f' c c' hf hc i1 i2
 | yield b h => rw [← hρ b h]; exact .yield b (by omega)
 | iface t v v' h ih => exact .iface t v v' ih
 | agg c c' hc h ih => exact .agg c c' hc ih
 | tuple c c' hc h ih => exact .tuple c c' hc ih
theorem VR.of_closed1 {n : Nat} {ρ : Nat → Place} {v : Value} (h : closed1 v = true) : VR n ρ v v := by
 unfold closed1 at h
 split at h <;> first | exact .bool _ | exact .int _ _ | exact .float _ _ | exact .string _ | exact .ptrNil | exact .slNil | exact .mapNil | exact .nilFunc | exact .nilIface | cases h
theorem VR.of_closed {n : Nat} {ρ : Nat → Place} {v : Value} (h : closedV v = true) : VR n ρ v v := by
 unfold closedV at h
 split at h
 ·exact .agg _ _ rfl fun i a _ => .of_closed1 (List.all_eq_true.1 h _ (by simp))
 ·exact .tuple _ _ rfl fun i a _ => .of_closed1 (List.all_eq_true.1 h _ (by simp))
 ·simp only [List.isEmpty_iff, Bool.and_eq_true, Array.toList_eq_nil_iff] at h
  obtain ⟨rfl, rfl⟩ := h
  exact .func _ _ _ _ _ rfl rfl (fun i a => by simp at a) (fun i a => by simp at a)
 ·exact .of_closed1 h
theorem VR.undef {n : Nat} {ρ : Nat → Place} : VR n ρ Go.undef Go.undef := .tuple _ _ rfl fun i a => by simp at a
/-- Two lists of values. -/
def VL (n : Nat) (ρ : Nat → Place) (xs ys : List Value) : Prop := xs.length = ys.length ∧ ∀ (i : Nat) (x y : Value), xs[i]? = some x → ys[i]? = some y → VR n ρ x y
theorem VL.mono {n n' : Nat} {ρ ρ' : Nat → Place} {xs ys : List Value} (h : VL n ρ xs ys) (hn : n ≤ n') (hρ : ∀ b, b < n → ρ' b = ρ b) : VL n' ρ' xs ys :=
 ⟨h.1, fun i x y hx hy => (h.2 i x y hx hy).mono hn hρ⟩
theorem VL.nil {n : Nat} {ρ : Nat → Place} : VL n ρ [] [] := ⟨rfl, fun i x y h => by simp at h⟩
theorem VL.cons {n : Nat} {ρ : Nat → Place} {x y : Value} {xs ys : List Value} (h : VR n ρ x y) (hl : VL n ρ xs ys) : VL n ρ (x :: xs) (y :: ys) := by
 refine ⟨by simp [hl.1], fun i a b ha hb => ?_⟩
 cases i with
 | zero => simp at ha hb; subst ha; subst hb; exact h
 | succ i => simp at ha hb; exact hl.2 i a b ha hb
theorem VL.head {n : Nat} {ρ : Nat → Place} {x y : Value} {xs ys : List Value} (h : VL n ρ (x :: xs) (y :: ys)) : VR n ρ x y := h.2 0 x y rfl rfl
theorem VL.tail {n : Nat} {ρ : Nat → Place} {x y : Value} {xs ys : List Value} (h : VL n ρ (x :: xs) (y :: ys)) : VL n ρ xs ys :=
 ⟨by simpa using h.1, fun i a b ha hb => h.2 (i + 1) a b (by simpa using ha) (by simpa using hb)⟩
theorem VL.append {n : Nat} {ρ : Nat → Place} {xs ys us vs : List Value} (h : VL n ρ xs ys) (k : VL n ρ us vs) : VL n ρ (xs ++ us) (ys ++ vs) := by
 refine ⟨by simp [h.1, k.1], fun i a b ha hb => ?_⟩
 by_cases hi : i < xs.length
 ·rw [List.getElem?_append_left hi] at ha
  rw [List.getElem?_append_left (by rw [← h.1]; exact hi)] at hb
  exact h.2 i a b ha hb
 ·rw [List.getElem?_append_right (by omega)] at ha
  rw [List.getElem?_append_right (by rw [← h.1]; omega), ← h.1] at hb
  exact k.2 _ a b ha hb
theorem VL.take {n : Nat} {ρ : Nat → Place} {xs ys : List Value} (h : VL n ρ xs ys) (m : Nat) : VL n ρ (xs.take m) (ys.take m) := by
 refine ⟨by simp [h.1], fun i a b ha hb => ?_⟩
 rw [List.getElem?_take] at ha hb
 split at ha
 ·rw [if_pos (by assumption)] at hb; exact h.2 i a b ha hb
 ·cases ha
theorem VL.drop {n : Nat} {ρ : Nat → Place} {xs ys : List Value} (h : VL n ρ xs ys) (m : Nat) : VL n ρ (xs.drop m) (ys.drop m) := by
 refine ⟨by simp [h.1], fun i a b ha hb => ?_⟩
 rw [List.getElem?_drop] at ha hb
 exact h.2 _ a b ha hb
theorem VL.get {n : Nat} {ρ : Nat → Place} {xs ys : List Value} (h : VL n ρ xs ys) {i : Nat} {x : Value} (hx : xs[i]? = some x) : ∃ y, ys[i]? = some y ∧ VR n ρ x y := by
 have hi : i < xs.length := (List.getElem?_eq_some_iff.1 hx).1
 have hj : i < ys.length := by rw [← h.1]; exact hi
 exact ⟨ys[i], by simp [hj], h.2 i x _ hx (by simp [hj])⟩
theorem VL.of_arrays {n : Nat} {ρ : Nat → Place} {c c' : Array Value} (hc : c.size = c'.size) (h : ∀ i (a : i < c.size) (b : i < c'.size), VR n ρ c[i] c'[i]) : VL n ρ c.toList c'.toList := by
 refine ⟨by simpa using hc, fun i x y hx hy => ?_⟩
 obtain ⟨h1, rfl⟩ := List.getElem?_eq_some_iff.1 hx
 obtain ⟨h2, rfl⟩ := List.getElem?_eq_some_iff.1 hy
 exact h i (by simpa using h1) (by simpa using h2)
theorem VL.arrays {n : Nat} {ρ : Nat → Place} {c c' : Array Value} (h : VL n ρ c.toList c'.toList) : c.size = c'.size ∧ ∀ i (a : i < c.size) (b : i < c'.size), VR n ρ c[i] c'[i] :=
 ⟨by simpa using h.1, fun i a b => h.2 i _ _ (by simp [a]) (by simp [b])⟩
theorem VL.agg {n : Nat} {ρ : Nat → Place} {xs ys : List Value} (h : VL n ρ xs ys) : VR n ρ (.agg xs.toArray) (.agg ys.toArray) :=
 .agg _ _ (VL.arrays (c := xs.toArray) (c' := ys.toArray) h).1 (VL.arrays (c := xs.toArray) (c' := ys.toArray) h).2
theorem VL.tuple {n : Nat} {ρ : Nat → Place} {xs ys : List Value} (h : VL n ρ xs ys) : VR n ρ (.tuple xs.toArray) (.tuple ys.toArray) :=
 .tuple _ _ (VL.arrays (c := xs.toArray) (c' := ys.toArray) h).1 (VL.arrays (c := xs.toArray) (c' := ys.toArray) h).2
theorem VL.map {n : Nat} {ρ : Nat → Place} {α : Type} (l : List α) (f g : α → Value) (h : ∀ x ∈ l, VR n ρ (f x) (g x)) : VL n ρ (l.map f) (l.map g) := by
 refine ⟨by simp, fun i a b ha hb => ?_⟩
 simp only [List.getElem?_map, Option.map_eq_some_iff] at ha hb
 obtain ⟨x, hx, rfl⟩ := ha
 obtain ⟨y, hy, rfl⟩ := hb
 rw [hx] at hy; cases hy
 exact h x (List.mem_of_getElem? hx)
theorem VL.closed {n : Nat} {ρ : Nat → Place} {xs : List Value} (h : ∀ x ∈ xs, closedV x = true) : VL n ρ xs xs := by
 simpa using VL.map xs id id (fun x hx => VR.of_closed (h x hx))
theorem VR.cells {n : Nat} {ρ : Nat → Place} {v v' : Value} (h : VR n ρ v v') : VL n ρ (cellsOf v) v'.cells.toList := by
 cases h <;> first
  | exact VL.of_arrays (by assumption) (by assumption)
  | (refine VL.cons ?_ VL.nil; first | exact .bool _ | exact .int _ _ | exact .float _ _ | exact .string _ | exact .ptrNil | exact .ptr _ _ (by assumption) | exact .slNil | exact .sl _ _ _ _ _ (by assumption) (by assumption) (by assumption) (by assumption) | exact .slE _ _ _ _ _ | exact .mapNil | exact .mapSome _ (by assumption) | exact .nilFunc | exact .nilIface | exact .func _ _ _ _ _ (by assumption) (by assumption) (by assumption) (by assumption) | exact .yield _ (by assumption) | exact .iface _ _ _ (by assumption) | exact .tuple _ _ (by assumption) (by assumption))
theorem VR.one {n : Nat} {ρ : Nat → Place} {v v' : Value} (h : VR n ρ v v') : v'.oneCell' = oneCell v := by
 cases h <;> rfl
theorem get_put (e : Env) (d : Nat) (v : Value) (t : Nat) : get (put e d v) t = if t = d then v else get e t := by
 induction d generalizing e t with
 | zero =>
  cases e with
  | nil => cases t <;> simp [put, get]
  | cons u e => cases t <;> simp [put, get]
 | succ d ih =>
  cases e with
  | nil => cases t with
   | zero => simp [put, get]
   | succ t => simp only [put, get, ih]; simp
  | cons u e => cases t with
   | zero => simp [put, get]
   | succ t => simp only [put, get, ih]; simp
theorem get_eq (e : Env) (t : Nat) : get e t = e.getD t undef := by
 induction e generalizing t with
 | nil => simp [get]
 | cons u e ih => cases t with
  | zero => simp [get]
  | succ t => simp [get, ih]
/-- The slots of a frame. -/
structure ER (n : Nat) (ρ : Nat → Place) (N : Nat) (e : Env) (t : Array Value) : Prop where
 size : t.size = N
 val : ∀ i, i < N → VR n ρ (get e i) (t.getD i undef)
 out : ∀ i, N ≤ i → get e i = undef
theorem ER.mono {n n' N : Nat} {ρ ρ' : Nat → Place} {e : Env} {t : Array Value} (h : ER n ρ N e t) (hn : n ≤ n') (hρ : ∀ b, b < n → ρ' b = ρ b) : ER n' ρ' N e t :=
 ⟨h.1, fun i hi => (h.2 i hi).mono hn hρ, h.3⟩
theorem ER.putO {n N : Nat} {ρ : Nat → Place} {e : Env} {a : Act} {d : Option Nat} {v v' : Value} (h : ER n ρ N e a.tmps) (hd : dstOk N d = true) (hv : VR n ρ v v') : ER n ρ N (putO e d v) (a.put d v').tmps := by
 cases d with
 | none => exact h
 | some d =>
  have hdN : d < N := by simpa [dstOk] using hd
  refine ⟨by simp [Act.put, h.1], fun i hi => ?_, fun i hi => by simp only [Ev.putO, get_put, if_neg (show ¬ i = d by omega)]; exact h.3 i hi⟩
  simp only [Ev.putO, get_put, Act.put]
  by_cases hid : i = d
  ·subst hid
   have : i < a.tmps.size := by rw [h.1]; exact hi
   simp [this]; exact hv
  ·have hne : ¬ d = i := fun e => hid e.symm
   rw [if_neg hid]
   have := h.2 i hi
   simpa [Array.getElem?_setIfInBounds_ne hne] using this
theorem put_defers (a : Act) (d : Option Nat) (v : Value) : (a.put d v).defers = a.defers := by cases d <;> rfl
/-- The entries of a map. -/
def VE (n : Nat) (ρ : Nat → Place) (es : List (Value × Value)) (ms : List MapEntry) : Prop := VL n ρ (es.map (·.1)) (ms.map (·.key)) ∧ VL n ρ (es.map (·.2)) (ms.map (·.val))
theorem VE.mono {n n' : Nat} {ρ ρ' : Nat → Place} {es : List (Value × Value)} {ms : List MapEntry} (h : VE n ρ es ms) (hn : n ≤ n') (hρ : ∀ b, b < n → ρ' b = ρ b) : VE n' ρ' es ms := ⟨h.1.mono hn hρ, h.2.mono hn hρ⟩
/-! Blocks. -/
def jumpOf : Option (Option Nat) → Option Code
 | none => none
 | some none => some .ret
 | some (some id) => some (.exit id)
def OR (n : Nat) (ρ : Nat → Place) (w : World) (b : Nat) : AObj → Prop
 | .row cs unit wr => ∃ cells t fr, w.heap[(ρ b).blk]? = some (.cells cells t fr) ∧
   (∀ (i : Nat) (v : Value), cs[i]? = some v → ∃ v', cells[(ρ b).off + i]? = some v' ∧ VR n ρ v v') ∧
   (wr = true → (ρ b).off + cs.length + (ρ b).ext * unit ≤ cells.size ∧ (∀ i, i < cells.size → ¬ (fr.1 ≤ i ∧ i < fr.2)) ∧ (unit = 0 → fr = (0, 0)))
 | .iter s p => w.heap[(ρ b).blk]? = some (.stringIter s p) ∧ (ρ b).off = 0
 | .loop P G st pe env ps cz bd => (ρ b).off = 0 ∧ ∃ (N : Nat) (fn : FuncId) (ca cb : Code) (tmps : Array Value) (D : Nat),
   w.heap[(ρ b).blk]? = some (.loop { state := st, pending := jumpOf pe, fn := fn, tmps := tmps, params := ps.toArray, assign := ca, body := cb, defers := D }) ∧
   prepCode P N G ca = some cz ∧ prepCode P N G cb = some bd ∧ (∀ t ∈ ps, t < N) ∧ ER n ρ N env tmps
 | .map es => ∃ ms clock, w.heap[(ρ b).blk]? = some (.map ms clock) ∧ VE n ρ es ms.toList
 | .dead => True
structure Rel (G : Nat) (ρ : Nat → Place) (H : Heap) (w : World) : Prop where
 obj : ∀ b o, H[b]? = some o → OR H.length ρ w b o
 inj : ∀ b c o u, H[b]? = some o → H[c]? = some u → b ≠ c → o.wrt = true → u.live = true → (ρ b).blk ≠ (ρ c).blk
 glob : ∀ g, g < G → ρ g = ⟨g, 0, 0⟩
 many : G ≤ H.length
def Foot (ρ : Nat → Place) (H : Heap) (c : Nat) : Prop := ∃ b o, H[b]? = some o ∧ o.wrt = true ∧ (ρ b).blk = c
structure Step (G : Nat) (ρ : Nat → Place) (H : Heap) (w : World) (ρ' : Nat → Place) (H' : Heap) (w' : World) : Prop where
 rel : Rel G ρ' H' w'
 len : H.length ≤ H'.length
 same : ∀ b, b < H.length → ρ' b = ρ b
 os : w'.os = w.os
 tape : w'.tape = w.tape
 output : w'.output = w.output
 size : w.heap.size ≤ w'.heap.size
 frame : ∀ c, c < w.heap.size → ¬ Foot ρ H c → w'.heap[c]? = w.heap[c]?
 fresh : ∀ c, Foot ρ' H' c → Foot ρ H c ∨ w.heap.size ≤ c
 loops : ∀ (c : Nat) (r : Loop), w.heap[c]? = some (Obj.loop r) → ∃ r', w'.heap[c]? = some (Obj.loop r')
 lives : ∀ (c : Nat) (u : AObj), H'[c]? = some u → u.live = true → (∃ o, H[c]? = some o ∧ o.live = true) ∨ Foot ρ H (ρ' c).blk ∨ w.heap.size ≤ (ρ' c).blk
theorem Step.refl {G : Nat} {ρ : Nat → Place} {H : Heap} {w : World} (h : Rel G ρ H w) : Step G ρ H w ρ H w :=
 ⟨h, Nat.le_refl _, fun _ _ => rfl, rfl, rfl, rfl, Nat.le_refl _, fun _ _ _ => rfl, fun _ h => .inl h, fun _ r h => ⟨r, h⟩, fun _ u h hl => .inl ⟨u, h, hl⟩⟩
theorem Step.trans {G : Nat} {ρ ρ' ρ'' : Nat → Place} {H H' H'' : Heap} {w w' w'' : World} (h : Step G ρ H w ρ' H' w') (k : Step G ρ' H' w' ρ'' H'' w'') : Step G ρ H w ρ'' H'' w'' := by
 refine ⟨k.rel, Nat.le_trans h.len k.len, fun b hb => (k.same b (Nat.lt_of_lt_of_le hb h.len)).trans (h.same b hb), k.os.trans h.os, k.tape.trans h.tape, k.output.trans h.output, Nat.le_trans h.size k.size, fun c hc hn => ?_, fun c hc => ?_, fun c r hc => (h.loops c r hc).elim fun r1 h1 => k.loops c r1 h1, fun c u hc hl => ?_⟩
 ·rw [k.frame c (Nat.lt_of_lt_of_le hc h.size) (fun hf => ?_), h.frame c hc hn]
  rcases h.fresh c hf with h1 | h1
  ·exact hn h1
  ·omega
 ·rcases k.fresh c hc with h1 | h1
  ·exact h.fresh c h1
  ·exact .inr (Nat.le_trans h.size h1)
 ·rcases k.lives c u hc hl with ⟨o, h1, h2⟩ | h1 | h1
  ·have hlt : c < H'.length := (List.getElem?_eq_some_iff.1 h1).1
   rw [k.same c hlt]
   exact h.lives c o h1 h2
  ·rcases h.fresh _ h1 with h2 | h2
   ·exact .inr (.inl h2)
   ·exact .inr (.inr h2)
  ·exact .inr (.inr (Nat.le_trans h.size h1))
theorem lt_of_live {n : Nat} {ρ : Nat → Place} {w : World} {b : Nat} {o : AObj} (h : OR n ρ w b o) (hl : o.live = true) : (ρ b).blk < w.heap.size := by
 cases o with
 | row cs u wr =>
  obtain ⟨cells, t, fr, h1, _⟩ := h
  exact (Array.getElem?_eq_some_iff.1 h1).1
 | iter s p => exact (Array.getElem?_eq_some_iff.1 h.1).1
 | loop P G st pe env ps cz bd =>
  obtain ⟨_, N, fn, ca, cb, tmps, D, h1, _⟩ := h
  exact (Array.getElem?_eq_some_iff.1 h1).1
 | map es => obtain ⟨_, _, h1, _⟩ := h; exact (Array.getElem?_eq_some_iff.1 h1).1
 | dead => cases hl
theorem live_of_wrt {o : AObj} (h : o.wrt = true) : o.live = true := by cases o <;> first | rfl | cases h
theorem OR.mono {n n' : Nat} {ρ ρ' : Nat → Place} {w w' : World} {b : Nat} {o : AObj} (h : OR n ρ w b o) (hn : n ≤ n') (hb : ρ' b = ρ b) (hρ : ∀ b, b < n → ρ' b = ρ b)
  (hw : o.live = true → w'.heap[(ρ b).blk]? = w.heap[(ρ b).blk]?) : OR n' ρ' w' b o := by
 cases o with
 | row cs u wr =>
  obtain ⟨cells, t, fr, h1, h2, h3⟩ := h
  rw [OR, hb]
  refine ⟨cells, t, fr, by rw [hw rfl]; exact h1, fun i v hv => ?_, h3⟩
  obtain ⟨v', hv', hr⟩ := h2 i v hv
  exact ⟨v', hv', hr.mono hn hρ⟩
 | iter s p => rw [OR, hb, hw rfl]; exact h
 | loop P G st pe env ps cz bd =>
  obtain ⟨h0, N, fn, ca, cb, tmps, D, h1, h2, h3, h4, h5⟩ := h
  rw [OR, hb, hw rfl]
  exact ⟨h0, N, fn, ca, cb, tmps, D, h1, h2, h3, h4, h5.mono hn hρ⟩
 | map es =>
  obtain ⟨ms, clock, h1, h2⟩ := h
  rw [OR, hb, hw rfl]
  exact ⟨ms, clock, h1, h2.mono hn hρ⟩
 | dead => trivial
/-- A new block at the heap's end. -/
def ext (ρ : Nat → Place) (n : Nat) (p : Place) : Nat → Place := fun b => if b = n then p else ρ b
theorem ext_same {ρ : Nat → Place} {n : Nat} {p : Place} : ext ρ n p n = p := by simp [ext]
theorem ext_lt {ρ : Nat → Place} {n : Nat} {p : Place} {b : Nat} (h : b < n) : ext ρ n p b = ρ b := by simp [ext]; omega
theorem Step.new {G : Nat} {ρ : Nat → Place} {H : Heap} {w : World} (hr : Rel G ρ H w) (o : Obj) (x : AObj) (e : Nat)
  (ho : OR (H.length + 1) (ext ρ H.length ⟨w.heap.size, 0, e⟩) { w with heap := w.heap.push o } H.length x) :
  Step G ρ H w (ext ρ H.length ⟨w.heap.size, 0, e⟩) (H ++ [x]) { w with heap := w.heap.push o } := by
 have old : ∀ c, c < w.heap.size → ({ w with heap := w.heap.push o } : World).heap[c]? = w.heap[c]? := fun c hc => by
  simp [Array.getElem?_push, Nat.ne_of_lt hc]
 have cases_ : ∀ b u, (H ++ [x])[b]? = some u → (b < H.length ∧ H[b]? = some u) ∨ (b = H.length ∧ u = x) := fun b u h => by
  by_cases hb : b < H.length
  ·rw [List.getElem?_append_left hb] at h; exact .inl ⟨hb, h⟩
  ·rw [List.getElem?_append_right (by omega)] at h
   obtain ⟨h1, h2⟩ := List.getElem?_eq_some_iff.1 h
   simp at h1
   have : b = H.length := by omega
   subst this
   simp at h2
   exact .inr ⟨rfl, h2.symm⟩
 refine ⟨⟨fun b u hu => ?_, fun b c u v hu hv hne hw hl => ?_, fun g hg => ?_, by simp; have := hr.many; omega⟩, by simp, fun b hb => ext_lt hb, rfl, rfl, rfl, by simp, fun c hc _ => old c hc, fun c hc => ?_, fun c r hc => ⟨r, by rw [old c (Array.getElem?_eq_some_iff.1 hc).1]; exact hc⟩, fun c u hu hl => ?_⟩
 ·rcases cases_ b u hu with ⟨hb, hu⟩ | ⟨rfl, rfl⟩
  ·refine (hr.obj b u hu).mono (by simp) (ext_lt hb) (fun c hc => ext_lt hc) (fun hl => old _ (lt_of_live (hr.obj b u hu) hl))
  ·simpa using ho
 ·rcases cases_ b u hu with ⟨hb, hu2⟩ | ⟨rfl, rfl⟩ <;> rcases cases_ c v hv with ⟨hc, hv2⟩ | ⟨rfl, rfl⟩
  ·rw [ext_lt hb, ext_lt hc]; exact hr.inj b c u v hu2 hv2 hne hw hl
  ·rw [ext_lt hb, ext_same]; exact Nat.ne_of_lt (lt_of_live (hr.obj b u hu2) (live_of_wrt hw))
  ·rw [ext_lt hc, ext_same]; exact Nat.ne_of_gt (lt_of_live (hr.obj c v hv2) hl)
  ·exact absurd rfl hne
 ·rw [ext_lt (Nat.lt_of_lt_of_le hg hr.many)]; exact hr.glob g hg
 ·obtain ⟨b, u, hu, hw, rfl⟩ := hc
  rcases cases_ b u hu with ⟨hb, hu⟩ | ⟨rfl, rfl⟩
  ·rw [ext_lt hb]; exact .inl ⟨b, u, hu, hw, rfl⟩
  ·rw [ext_same]; exact .inr (Nat.le_refl _)
 ·rcases cases_ c u hu with ⟨hc, hu2⟩ | ⟨rfl, rfl⟩
  ·exact .inl ⟨u, hu2, hl⟩
  ·rw [ext_same]; exact .inr (.inr (Nat.le_refl _))
/-- A block changes in its place. -/
theorem Step.upd {G : Nat} {ρ : Nat → Place} {H : Heap} {w w' : World} {b : Nat} {o x : AObj} (hr : Rel G ρ H w) (hb : H[b]? = some o) (hw : o.wrt = true) (hx : x.wrt = true)
  (hs : w'.heap.size = w.heap.size) (hh : ∀ c, c ≠ (ρ b).blk → w'.heap[c]? = w.heap[c]?) (h1 : w'.os = w.os) (h2 : w'.tape = w.tape) (h3 : w'.output = w.output)
  (hlp : ∀ r : Loop, w.heap[(ρ b).blk]? = some (Obj.loop r) → ∃ r', w'.heap[(ρ b).blk]? = some (Obj.loop r'))
  (ho : OR H.length ρ w' b x) : Step G ρ H w ρ (H.set b x) w' := by
 have hlt : b < H.length := (List.getElem?_eq_some_iff.1 hb).1
 have cases_ : ∀ c u, (H.set b x)[c]? = some u → (c ≠ b ∧ H[c]? = some u) ∨ (c = b ∧ u = x) := fun c u h => by
  by_cases hc : c = b
  ·subst hc; rw [List.getElem?_set_self hlt] at h; cases h; exact .inr ⟨rfl, rfl⟩
  ·rw [List.getElem?_set_ne (fun e => hc e.symm)] at h; exact .inl ⟨hc, h⟩
 refine ⟨⟨fun c u hu => ?_, fun c d u v hu hv hne hwr hl => ?_, hr.glob, by simpa using hr.many⟩, by simp, fun _ _ => rfl, h1, h2, h3, by omega, fun c hc hn => ?_, fun c hc => ?_, fun c r hc => ?_, fun c u hu hl => ?_⟩
 ·rw [List.length_set]
  rcases cases_ c u hu with ⟨hc, hu⟩ | ⟨rfl, rfl⟩
  ·exact (hr.obj c u hu).mono (Nat.le_refl _) rfl (fun _ _ => rfl) (fun hl => hh _ (fun e => hr.inj b c o u hb hu (fun e => hc e.symm) hw hl e.symm))
  ·exact ho
 ·rcases cases_ c u hu with ⟨hc, hu2⟩ | ⟨rfl, rfl⟩ <;> rcases cases_ d v hv with ⟨hd, hv2⟩ | ⟨rfl, rfl⟩
  ·exact hr.inj c d u v hu2 hv2 hne hwr hl
  ·exact hr.inj c d u o hu2 hb hne hwr (live_of_wrt hw)
  ·exact hr.inj c d o v hb hv2 hne hw hl
  ·exact absurd rfl hne
 ·exact hh c (fun e => hn ⟨b, o, hb, hw, e.symm⟩)
 ·obtain ⟨d, u, hu, hwr, rfl⟩ := hc
  rcases cases_ d u hu with ⟨hd, hu⟩ | ⟨rfl, rfl⟩
  ·exact .inl ⟨d, u, hu, hwr, rfl⟩
  ·exact .inl ⟨d, o, hb, hw, rfl⟩
 ·by_cases he : c = (ρ b).blk
  ·subst he; exact hlp r hc
  ·exact ⟨r, by rw [hh c he]; exact hc⟩
 ·rcases cases_ c u hu with ⟨hc, hu2⟩ | ⟨rfl, rfl⟩
  ·exact .inl ⟨u, hu2, hl⟩
  ·exact .inl ⟨o, hb, live_of_wrt hw⟩
theorem hget_some {H : Heap} {b : Nat} {o : AObj} (h : hget H b = o) (hl : o.live = true) : H[b]? = some o := by
 unfold hget at h
 split at h
 ·rename_i x hx; rw [hx, h]
 ·subst h; cases hl
end
section
variable {P : Program} {N G n : Nat} {ρ : Nat → Place}
theorem VR.inv_ptr {b o : Nat} {v : Value} (h : VR n ρ (.pointer (some ⟨b, o, none⟩)) v) : b < n ∧ v = .pointer (some ⟨(ρ b).blk, (ρ b).off + o, none⟩) := by
 cases h with | ptr b o h => exact ⟨h, rfl⟩
theorem VR.inv_ptrSome {a : Addr} {v : Value} (h : VR n ρ (.pointer (some a)) v) : ∃ b o, a = ⟨b, o, none⟩ ∧ b < n ∧ v = .pointer (some ⟨(ρ b).blk, (ρ b).off + o, none⟩) := by
 cases h with | ptr b o h => exact ⟨b, o, rfl, h, rfl⟩
theorem VR.inv_map {b : Nat} {v : Value} (h : VR n ρ (.map (some b)) v) : b < n ∧ v = .map (some (ρ b).blk) := by
 cases h with | mapSome b h => exact ⟨h, rfl⟩
theorem VR.inv_mapNil {v : Value} (h : VR n ρ (.map none) v) : v = .map none := by cases h; rfl
theorem VR.inv_nilIface {v : Value} (h : VR n ρ .nilIface v) : v = .nilIface := by cases h; rfl
theorem VR.inv_ptrNil {v : Value} (h : VR n ρ (.pointer none) v) : v = .pointer none := by cases h; rfl
theorem VR.inv_int {k : IntKind} {x : Int} {v : Value} (h : VR n ρ (.int k x) v) : v = .int k x := by cases h; rfl
theorem VR.inv_bool {b : Bool} {v : Value} (h : VR n ρ (.bool b) v) : v = .bool b := by cases h; rfl
theorem VR.inv_string {s : ByteArray} {v : Value} (h : VR n ρ (.string s) v) : v = .string s := by cases h; rfl
theorem VR.inv_nilFunc {v : Value} (h : VR n ρ .nilFunc v) : v = .nilFunc := by cases h; rfl
theorem VR.inv_agg {c : Array Value} {v : Value} (h : VR n ρ (.agg c) v) : ∃ c', v = .agg c' ∧ VL n ρ c.toList c'.toList := by
 cases h with | agg c c' hc h => exact ⟨c', rfl, VL.of_arrays hc h⟩
theorem VR.inv_tuple {c : Array Value} {v : Value} (h : VR n ρ (.tuple c) v) : ∃ c', v = .tuple c' ∧ VL n ρ c.toList c'.toList := by
 cases h with | tuple c c' hc h => exact ⟨c', rfl, VL.of_arrays hc h⟩
theorem VR.inv_func {fn : FuncId} {f c : Array Value} {v : Value} (h : VR n ρ (.func (.func fn) f c) v) : ∃ f' c', v = .func (.func fn) f' c' ∧ VL n ρ f.toList f'.toList ∧ VL n ρ c.toList c'.toList := by
 cases h with | func fn f f' c c' hf hc h1 h2 => exact ⟨f', c', rfl, VL.of_arrays hf h1, VL.of_arrays hc h2⟩
theorem VR.inv_yield {b : Nat} {f c : Array Value} {v : Value} (h : VR n ρ (.func (.yield b) f c) v) : b < n ∧ f = #[] ∧ c = #[] ∧ v = .func (.yield (ρ b).blk) #[] #[] := by
 cases h with | yield b h => exact ⟨h, rfl, rfl, rfl⟩
theorem VR.inv_anyfunc {fn : Fn} {f c : Array Value} {v : Value} (h : VR n ρ (.func fn f c) v) : ∃ g f' c', v = .func g f' c' := by
 cases h with
 | func fn f f' c c' hf hc h1 h2 => exact ⟨_, _, _, rfl⟩
 | yield b h => exact ⟨_, _, _, rfl⟩
theorem VR.inv_iface {t : TypeId} {x v : Value} (h : VR n ρ (.iface t x) v) : ∃ x', v = .iface t x' ∧ VR n ρ x x' := by
 cases h with | iface t v v' h => exact ⟨v', rfl, h⟩
theorem VR.inv_slice {a : Option Addr} {l c : Nat} {v : Value} (h : VR n ρ (.slice a l c) v) :
  (a = none ∧ l = 0 ∧ c = 0 ∧ v = .slice none 0 0) ∨
  (∃ b o c', a = some ⟨b, o, none⟩ ∧ b < n ∧ l ≤ c ∧ c ≤ c' ∧ c' ≤ c + (ρ b).ext ∧ v = .slice (some ⟨(ρ b).blk, (ρ b).off + o, none⟩) l c') ∨
  (∃ b o k a' c', a = some ⟨b, o, some k⟩ ∧ l = 0 ∧ c = 0 ∧ v = .slice (some a') 0 c') := by
 cases h with
 | slNil => exact .inl ⟨rfl, rfl, rfl, rfl⟩
 | sl b o l c c' h h0 h1 h2 => exact .inr (.inl ⟨b, o, c', rfl, h, h0, h1, h2, rfl⟩)
 | slE b o k a c' => exact .inr (.inr ⟨b, o, k, a, c', rfl, rfl, rfl, rfl⟩)
theorem VR.operand {e : Env} {a : Act} {x : Operand} (h : ER n ρ N e a.tmps) (hx : okO N G x = true) (hG : G ≤ n) (hg : ∀ g, g < G → ρ g = ⟨g, 0, 0⟩) : VR n ρ (aev e x) (a.eval x) := by
 cases x with
 | tmp t => exact h.2 t (by simpa [okO] using hx)
 | const v => exact .of_closed hx
 | global g =>
  have hlt : g < G := by simpa [okO] using hx
  have := VR.ptr (n := n) (ρ := ρ) g 0 (Nat.lt_of_lt_of_le hlt hG)
  rw [hg g hlt] at this
  exact this
 | func f => exact .func _ _ _ _ _ rfl rfl (fun i a => by simp at a) (fun i a => by simp at a)
theorem run_und {t : TypeId} {d : TypeDesc} {w : World} (h : P.underlying t = some d) : (underlying t).run P w = .ok d w := by
 simp [underlying, h]
theorem run_info {t : TypeId} {i : TypeInfo} {w : World} (h : P.info? t = some i) : (typeInfo t).run P w = .ok i w := by
 simp [typeInfo, h]
theorem run_size {t : TypeId} {s : Nat} {w : World} (h : szOf P t = some s) : (sizeOf t).run P w = .ok s w := by
 unfold szOf at h
 obtain ⟨i, hi, rfl⟩ := Option.map_eq_some_iff.1 h
 simp [sizeOf, run_info hi]
theorem run_bytes {t : TypeId} {s : Nat} {w : World} (h : bytesOfT P t = some s) : ∃ i, P.info? t = some i ∧ i.bytes = s ∧ (typeInfo t).run P w = .ok i w := by
 unfold bytesOfT at h
 obtain ⟨i, hi, rfl⟩ := Option.map_eq_some_iff.1 h
 exact ⟨i, hi, rfl, run_info hi⟩
theorem run_agg {t : TypeId} {b : Bool} {w : World} (h : aggT P t = some b) : (isAgg t).run P w = .ok b w := by
 unfold aggT at h
 unfold isAgg
 split at h
 ·rename_i d hd; cases h; simp [run_und hd]
 ·rename_i d hd; cases h; simp [run_und hd]
 ·rename_i d hn1 hn2 hd
  cases h
  simp only [Sem.run_bind, run_und hd, Result.andThen_ok]
  rfl
 ·cases h
theorem run_zero {t : TypeId} {z : List Value} (h : zeroOf P t = some z) : ∃ v, (∀ w, (zeroValue t).run P w = .ok v w) ∧ v.cells.toList = z ∧ closedV v = true ∧ cellsOf v = z := by
 unfold zeroOf at h
 split at h
 ·rename_i v hv
  split at h
  ·rename_i hc
   cases h
   obtain ⟨i, hi, hz⟩ := Option.bind_eq_some_iff.1 hv
   refine ⟨v, fun w => by simp [zeroValue, run_info hi, hz], ?_, hc, rfl⟩
   cases v <;> rfl
  ·cases h
 ·cases h
theorem closed_cells {v : Value} (h : closedV v = true) : ∀ x ∈ cellsOf v, closedV x = true := by
 intro x hx
 unfold closedV at h
 have up : ∀ y, closed1 y = true → closedV y = true := fun y hy => by
  unfold closed1 at hy
  split at hy <;> first | rfl | cases hy
 split at h
 ·exact up _ (List.all_eq_true.1 h _ (by simpa [cellsOf] using hx))
 ·simp only [cellsOf, List.mem_singleton] at hx; subst hx; simpa [closedV] using h
 ·simp only [cellsOf, List.mem_singleton] at hx; subst hx; simpa [closedV] using h
 ·rename_i h1 h2 h3
  have : cellsOf v = [v] := by
   unfold cellsOf
   split
   ·exact absurd rfl (h1 _)
   ·rfl
  rw [this, List.mem_singleton] at hx
  subst hx
  exact up _ h
theorem zero_closed {t : TypeId} {z : List Value} (h : zeroOf P t = some z) : ∀ x ∈ z, closedV x = true := by
 unfold zeroOf at h
 split at h
 ·rename_i v hv
  split at h
  ·rename_i hc; cases h; exact closed_cells hc
  ·cases h
 ·cases h
theorem run_places : ∀ (l : List Field) {pl : List (Nat × Nat)} (w : World), placesOf P l = some pl →
  (l.mapM fun f => do pure (f.offset, ← sizeOf f.type) : Sem (List (Nat × Nat))).run P w = .ok pl w := by
 intro l
 induction l with
 | nil => intro pl w h; simp only [placesOf] at h; cases h; rfl
 | cons f l ih =>
  intro pl w h
  simp only [placesOf] at h
  split at h
  ·rename_i s m hs hm
   cases h
   simp only [List.mapM_cons, Sem.run_bind, run_size hs, Result.andThen_ok, Sem.run_pure, ih w hm]
  ·cases h
theorem run_places' {fs : Array Field} {pl : List (Nat × Nat)} (w : World) (h : placesOf P fs.toList = some pl) :
  (fs.mapM fun f => do pure (f.offset, ← sizeOf f.type) : Sem (Array (Nat × Nat))).run P w = .ok pl.toArray w := by
 rw [Array.mapM_eq_mapM_toList]
 simp only [Sem.run_map, run_places fs.toList w h, Result.andThen_ok]
theorem pr_some {α : Type} {s : Sem α} {v : α} (h : pr s = some v) : s = .pure v := by
 cases s <;> simp [pr] at h
 rw [h]
theorem pr_run {α : Type} {s : Sem α} {v : α} (h : pr s = some v) (w : World) : s.run P w = .ok v w := by rw [pr_some h]; rfl
theorem ofO_val {o : Option Value} {H H' : Heap} {v : Value} (h : ofO o H = .val v H') : o = some v ∧ H' = H := by
 unfold ofO at h
 split at h
 ·simp at h; exact ⟨by rw [h.1], h.2.symm⟩
 ·cases h
theorem add_spot (b o : Nat) (m : Nat) : (⟨b, o, none⟩ : Addr).add m = ⟨b, o + m, none⟩ := by
 unfold Addr.add; split
 ·subst m; rfl
 ·rfl
/-- What a pure operation answers, in every world. -/
def Says (P : Program) (o : Oper) (ev : Operand → Value) (v : Value) : Prop := ∀ w, (execOp ev o).run P w = .ok (.value v) w
theorem setL_vl {xs ys : List Value} : ∀ {us vs : List Value} {o : Nat}, VL n ρ xs ys → VL n ρ us vs → VL n ρ (setL xs o us) (setL ys o vs) := by
 intro us
 induction us generalizing xs ys with
 | nil =>
  intro vs o h k
  have : vs = [] := by have := k.1; simp at this; exact List.eq_nil_of_length_eq_zero this.symm
  subst this; exact h
 | cons u us ih =>
  intro vs o h k
  cases vs with
  | nil => have := k.1; simp at this
  | cons v vs =>
   simp only [setL]
   refine ih ⟨by simp [h.1], fun i a b ha hb => ?_⟩ k.tail
   rw [List.getElem?_set] at ha hb
   split at ha
   ·rw [if_pos (by assumption)] at hb
    split at ha
    ·cases ha
     split at hb
     ·cases hb; exact k.head
     ·cases hb
    ·cases ha
   ·rw [if_neg (by assumption)] at hb; exact h.2 i a b ha hb
theorem setL_length (xs : List Value) : ∀ (us : List Value) (o : Nat), (setL xs o us).length = xs.length := by
 intro us
 induction us generalizing xs with
 | nil => intro o; rfl
 | cons u us ih => intro o; simp [setL, ih]
/-- The model's way to lay a part into cells. -/
theorem fold_set (cs : Array Value) : ∀ (vs : List Value) (k off : Nat), ((vs.zipIdx k).foldl (fun cs (p : Value × Nat) => cs.setIfInBounds (off + p.2) p.1) cs).toList = setL cs.toList (off + k) vs := by
 intro vs
 induction vs generalizing cs with
 | nil => intro k off; simp [setL]
 | cons v vs ih =>
  intro k off
  simp only [List.zipIdx_cons, List.foldl_cons, setL]
  rw [ih]
  simp [Nat.add_assoc]
theorem fill_sound {place : Nat → Option (Nat × Nat)} : ∀ (parts : List (Nat × Operand)) {ps : List (Nat × Nat × Operand)} {e : Env} {a : Act} {cs out : List Value} {cs' : Array Value}
  (_ : partsOf P N G place parts = some ps) (_ : ER n ρ N e a.tmps) (_ : G ≤ n) (_ : ∀ g, g < G → ρ g = ⟨g, 0, 0⟩) (_ : VL n ρ cs cs'.toList)
  (_ : fillL cs (ps.map fun p => (p.1, p.2.1, aev e p.2.2)) = some out),
  ∃ out', Instr.fill place cs' (parts.map fun p => (p.1, a.eval p.2)) = some out' ∧ VL n ρ out out'.toList := by
 intro parts
 induction parts with
 | nil =>
  intro ps e a cs out cs' hp he hG hg hc hf
  simp only [partsOf] at hp
  cases hp
  simp only [List.map_nil, fillL] at hf
  cases hf
  exact ⟨cs', rfl, hc⟩
 | cons p parts ih =>
  intro ps e a cs out cs' hp he hG hg hc hf
  obtain ⟨i, x⟩ := p
  simp only [partsOf] at hp
  split at hp
  ·rename_i o m r hpl hr
   split at hp
   ·rename_i hok
    cases hp
    simp only [List.map_cons, fillL] at hf
    split at hf
    ·rename_i hsz
     have hv := VR.operand he hok hG hg
     have hvc := hv.cells
     have hl : (a.eval x).cells.size = m := by
      have := hvc.1
      simp only [Array.length_toList] at this
      omega
     have hlen : cs.length = cs'.size := by have := hc.1; simpa using this
     simp only [List.map_cons, Instr.fill, hpl]
     rw [if_neg (by simp [hl]; omega)]
     refine ih hr he hG hg ?_ hf
     rw [← Array.foldl_toList, Array.toList_zipIdx, fold_set]
     simpa using setL_vl (o := o) hc hvc
    ·cases hf
   ·cases hp
  ·cases hp
end
section
variable {P : Program} {N G n : Nat} {ρ : Nat → Place}
structure Fits (G N n : Nat) (ρ : Nat → Place) (e : Env) (a : Act) : Prop where
  er : ER n ρ N e a.tmps
  many : G ≤ n
  glob : ∀ g, g < G → ρ g = ⟨g, 0, 0⟩
theorem Fits.op {e : Env} {a : Act} (h : Fits G N n ρ e a) {x : Operand} (hx : okO N G x = true) : VR n ρ (aev e x) (a.eval x) := VR.operand h.er hx h.many h.glob
variable {e : Env} {a : Act} {H H' : Heap} {v : Value} {dst : Option Nat} {ty : TypeId} {pos : String} {after : Array Edge} {guard : Option (Nat × Bool)}
/-- What has to be shown of a pure operation. -/
def PureOK (P : Program) (N G n : Nat) (ρ : Nat → Place) (o : Oper) (ao : AOp) : Prop :=
  ∀ (e : Env) (a : Act) (H H' : Heap) (v : Value), Fits G N n ρ e a → aop e H ao = .val v H' → H' = H ∧ ∃ v', VR n ρ v v' ∧ Says P o a.eval v'
theorem pure_mov {x : Operand} (hx : okO N G x = true) (o : Oper) (ho : ∀ ev, execOp ev o = pure (.value (ev x))) : PureOK P N G n ρ o (.mov x) := by
  intro e a H H' v hf h
  simp only [aop, ARes.val.injEq] at h
  obtain ⟨rfl, rfl⟩ := h
  exact ⟨rfl, _, hf.op hx, fun w => by rw [ho]; rfl⟩
theorem pure_pick {c x y : Operand} (hc : okO N G c = true) (hx : okO N G x = true) (hy : okO N G y = true) : PureOK P N G n ρ ⟨dst, .pick c x y, ty, pos, after, guard⟩ (.pick c x y) := by
  intro e a H H' v hf h
  simp only [aop] at h
  split at h
  · rename_i t ht
    simp only [ARes.val.injEq] at h
    obtain ⟨rfl, rfl⟩ := h
    have h1 := hf.op hc
    rw [ht] at h1
    refine ⟨rfl, if t then a.eval x else a.eval y, ?_, fun w => ?_⟩
    · cases t
      · exact hf.op hy
      · exact hf.op hx
    · simp only [execOp, h1.inv_bool, asBool]; cases t <;> simp
  · cases h
theorem pure_build {t : TypeId} {parts : Array (Nat × Operand)} {ao : AOp} (hp : prepOp P N G (.build t parts) = some ao) :
    PureOK P N G n ρ ⟨dst, .build t parts, ty, pos, after, guard⟩ ao := by
  intro e a H H' v hf h
  simp only [prepOp] at hp
  split at hp
  · rename_i z fs hz hu
    split at hp
    · rename_i pl hpl
      obtain ⟨ps, hps, rfl⟩ := Option.map_eq_some_iff.1 hp
      simp only [aop] at h
      split at h
      · rename_i cs hcs
        simp only [ARes.val.injEq] at h
        obtain ⟨rfl, rfl⟩ := h
        obtain ⟨zv, hz', hzc, _, _⟩ := run_zero (P := P) hz
        obtain ⟨out, hout, hvl⟩ := fill_sound (cs' := zv.cells) parts.toList hps hf.er hf.many hf.glob (by rw [hzc]; exact VL.closed (zero_closed hz)) hcs
        refine ⟨rfl, .agg out, VL.agg hvl, fun w => ?_⟩
        have hpa := run_places' (P := P) w hpl
        simp only [execOp, Instr.build, Sem.run_bind, hz', run_und hu, Result.andThen_ok, hpa]
        have e1 : (fun i : Nat => pl.toArray[i]?) = fun i : Nat => pl[i]? := by funext i; simp
        simp only [e1]
        rw [show (Array.map (fun x => match x with | (i, x) => (i, a.eval x)) parts).toList = parts.toList.map fun p => (p.1, a.eval p.2) by simp, hout]
        rfl
      · cases h
    · cases hp
  · rename_i z n' el hz hu
    split at hp
    · rename_i s hs
      obtain ⟨ps, hps, rfl⟩ := Option.map_eq_some_iff.1 hp
      simp only [aop] at h
      split at h
      · rename_i cs hcs
        simp only [ARes.val.injEq] at h
        obtain ⟨rfl, rfl⟩ := h
        obtain ⟨zv, hz', hzc, _, _⟩ := run_zero (P := P) hz
        obtain ⟨out, hout, hvl⟩ := fill_sound (cs' := zv.cells) parts.toList hps hf.er hf.many hf.glob (by rw [hzc]; exact VL.closed (zero_closed hz)) hcs
        refine ⟨rfl, .agg out, VL.agg hvl, fun w => ?_⟩
        simp only [execOp, Instr.build, Sem.run_bind, hz', run_und hu, Result.andThen_ok, run_size hs]
        rw [show (Array.map (fun x => match x with | (i, x) => (i, a.eval x)) parts).toList = parts.toList.map fun p => (p.1, a.eval p.2) by simp, hout]
        rfl
      · cases h
    · cases hp
  · cases hp
theorem pure_nilChk {x : Operand} (hx : okO N G x = true) : PureOK P N G n ρ ⟨dst, .nilCheck x, ty, pos, after, guard⟩ (.nilChk x) := by
  intro e a H H' v hf h
  have h1 := hf.op hx
  simp only [aop] at h
  split at h <;> first | (cases h; done) | skip
  all_goals
    rename_i hq
    simp only [ARes.val.injEq] at h
    obtain ⟨rfl, rfl⟩ := h
    rw [hq] at h1
    refine ⟨rfl, a.eval x, h1, fun w => ?_⟩
  · obtain ⟨b, o, rfl, _, hv⟩ := h1.inv_ptrSome
    simp [execOp, hv]
  · obtain ⟨f', c', hv, _, _⟩ := h1.inv_func
    simp [execOp, hv]
  · obtain ⟨_, _, _, hv⟩ := h1.inv_yield
    simp [execOp, hv]
  · obtain ⟨x', hv, _⟩ := h1.inv_iface
    simp [execOp, hv]
theorem run_intBin {op : BinOp} {k k' : IntKind} {x y : Int} {v : Value} {t : TypeId} (h : intBin op k x k' y = some v) (w : World) :
    (binOp op t (.int k x) (.int k' y)).run P w = .ok v w := by
  unfold intBin at h
  cases op <;> simp only at h <;> (repeat' split at h) <;> first | (cases h; done) | skip
  all_goals
    simp only [binOp]
    try subst k'
    try rw [if_neg (by simp)]
    exact pr_run h w
theorem closed_intBin {op : BinOp} {k k' : IntKind} {x y : Int} {v : Value} (h : intBin op k x k' y = some v) : closed1 v = true := by
  unfold intBin at h
  cases op <;> simp only at h <;> (repeat' split at h) <;> first | (cases h; done) | skip
  all_goals
    have h2 := pr_some h
    simp only [Op.shift, Op.intArith, Op.intDiv, Op.intBits, Op.intCmp] at h2
    (repeat' split at h2) <;> first | (injection h2 with h2; subst h2; rfl) | (cases h2; done) | contradiction
theorem run_strBin {op : BinOp} {x y : ByteArray} {v : Value} {t : TypeId} (h : strBin op x y = some v) (w : World) :
    (binOp op t (.string x) (.string y)).run P w = .ok v w ∧ closed1 v = true := by
  unfold strBin at h
  cases op <;> simp only at h <;> (try (split at h)) <;> first | (cases h; done) | skip
  all_goals
    injection h with h
    subst h
    refine ⟨?_, rfl⟩
    simp only [binOp, Op.stringOp, ByteArray.toList_eq]
    try rfl
  rename_i hs
  rw [if_neg ?_]
  · rfl
  · simp only [IntKind.max, IntKind.signed, IntKind.bits]
    simp
    omega
theorem run_eqGuard {op : BinOp} {t : TypeId} {x y : Operand} {u v : Value} (w : World)
    (h1 : ∀ c d, ¬ (u = .agg c ∧ v = .agg d)) (h2 : ¬ (u = .nilIface ∧ v = .nilIface)) : (eqGuard op t x y u v).run P w = .ok () w := by
  unfold eqGuard
  cases op <;> dsimp only [Bool.not_true, Bool.not_false] <;> first
    | rfl
    | (rw [if_neg (by simp)]
       split
       · exact absurd ⟨rfl, rfl⟩ h2
       · exact absurd ⟨rfl, rfl⟩ (h1 _ _)
       · rfl)
theorem pure_bin {op : BinOp} {t yt : TypeId} {x y : Operand} (hx : okO N G x = true) (hy : okO N G y = true) : PureOK P N G n ρ ⟨dst, .binOp op t x y yt, ty, pos, after, guard⟩ (.bin op x y) := by
  intro e a H H' v hf h
  have h1 := hf.op hx
  have h2 := hf.op hy
  simp only [aop] at h
  obtain ⟨h3, rfl⟩ := ofO_val h
  unfold binV at h3
  split at h3
  · rename_i k i k' j hi hj
    rw [hi] at h1; rw [hj] at h2
    refine ⟨rfl, v, .of_closed1 (closed_intBin h3), fun w => ?_⟩
    simp only [execOp, Sem.run_bind, h1.inv_int, h2.inv_int]
    rw [run_eqGuard w (fun c d hh => by cases hh.1) (fun hh => by cases hh.1)]
    simp [run_intBin h3]
  · rename_i s s' hi hj
    rw [hi] at h1; rw [hj] at h2
    refine ⟨rfl, v, .of_closed1 (run_strBin (P := P) (t := t) h3 default).2, fun w => ?_⟩
    simp only [execOp, Sem.run_bind, h1.inv_string, h2.inv_string]
    rw [run_eqGuard w (fun c d hh => by cases hh.1) (fun hh => by cases hh.1)]
    simp [(run_strBin (P := P) (t := t) h3 w).1]
  · cases h3
theorem equalIn_bool {d : Nat} {t : TypeId} {x y : Bool} (hu : P.underlying t = some .bool) (w : World) : (Op.equalIn (d + 1) t (.bool x) (.bool y)).run P w = .ok (x == y) w := by
  simp only [Op.equalIn, Sem.run_bind, run_und hu, Result.andThen_ok]
  rfl
theorem run_equal_bool {t : TypeId} {x y : Bool} (hu : P.underlying t = some .bool) (w : World) : (Op.equal t (.bool x) (.bool y)).run P w = .ok (x == y) w :=
  equalIn_bool (d := 9999) hu w
theorem eqb_model {op : BinOp} {t : TypeId} {x y : Bool} (hu : P.underlying t = some .bool) (hop : op = .eql ∨ op = .neq) (w : World) :
    (binOp op t (.bool x) (.bool y)).run P w = .ok (.bool ((x == y) != isNeq op)) w := by
  rcases hop with rfl | rfl <;> simp only [binOp, Sem.run_bind, run_equal_bool hu, Result.andThen_ok, isNeq] <;> simp
theorem pure_eqb {op : BinOp} {t yt : TypeId} {x y : Operand} (hx : okO N G x = true) (hy : okO N G y = true) (hu : P.underlying t = some .bool) (hop : op = .eql ∨ op = .neq) :
    PureOK P N G n ρ ⟨dst, .binOp op t x y yt, ty, pos, after, guard⟩ (.eqb (isNeq op) x y) := by
  intro e a H H' v hf h
  have h1 := hf.op hx
  have h2 := hf.op hy
  simp only [aop] at h
  obtain ⟨h3, rfl⟩ := ofO_val h
  obtain ⟨b, hb, rfl⟩ := Option.map_eq_some_iff.1 h3
  refine ⟨rfl, _, .bool _, fun w => ?_⟩
  unfold eq1 at hb
  split at hb
  · rename_i p q hi hj
    rw [hi] at h1; rw [hj] at h2
    injection hb with hb
    subst hb
    simp only [execOp, Sem.run_bind, h1.inv_bool, h2.inv_bool]
    rw [run_eqGuard w (fun c d hh => by cases hh.1) (fun hh => by cases hh.1)]
    simp only [Result.andThen_ok, eqb_model hu hop, Sem.run_pure]
  · rename_i k p k' q hi hj
    split at hb
    · rename_i hk
      subst hk
      injection hb with hb
      subst hb
      rw [hi] at h1; rw [hj] at h2
      simp only [execOp, Sem.run_bind, h1.inv_int, h2.inv_int]
      rw [run_eqGuard w (fun c d hh => by cases hh.1) (fun hh => by cases hh.1)]
      rcases hop with rfl | rfl <;> simp [binOp, Op.intCmp, isNeq, bne]
    · cases hb
  · rename_i p q hi hj
    injection hb with hb
    subst hb
    rw [hi] at h1; rw [hj] at h2
    simp only [execOp, Sem.run_bind, h1.inv_string, h2.inv_string]
    rw [run_eqGuard w (fun c d hh => by cases hh.1) (fun hh => by cases hh.1)]
    rcases hop with rfl | rfl <;> simp [binOp, Op.stringOp, ByteArray.toList_eq, isNeq]
  · cases hb
theorem pure_un {op : UnOp} {t : TypeId} {x : Operand} (hx : okO N G x = true) : PureOK P N G n ρ ⟨dst, .unOp op t x, ty, pos, after, guard⟩ (.un op x) := by
  intro e a H H' v hf h
  have h1 := hf.op hx
  simp only [aop] at h
  split at h
  · rename_i k i hi
    obtain ⟨h3, rfl⟩ := ofO_val h
    rw [hi] at h1
    have h2 := pr_some h3
    simp only [Op.intArith] at h2
    injection h2 with h2
    subst h2
    exact ⟨rfl, _, .int _ _, fun w => by simp [execOp, h1.inv_int, Op.unary, Op.intArith]⟩
  · rename_i k i hi
    obtain ⟨h3, rfl⟩ := ofO_val h
    rw [hi] at h1
    have h2 := pr_some h3
    simp only [Op.intBits] at h2
    injection h2 with h2
    subst h2
    exact ⟨rfl, _, .int _ _, fun w => by simp [execOp, h1.inv_int, Op.unary, Op.intBits]⟩
  · rename_i b hi
    simp only [ARes.val.injEq] at h
    obtain ⟨rfl, rfl⟩ := h
    rw [hi] at h1
    exact ⟨rfl, _, .bool _, fun w => by simp [execOp, h1.inv_bool, Op.unary]⟩
  · cases h
end
section
variable {P : Program} {N G n : Nat} {ρ : Nat → Place}
variable {dst : Option Nat} {ty : TypeId} {pos : String} {after : Array Edge} {guard : Option (Nat × Bool)}
theorem pure_conv {s d : TypeId} {j k : IntKind} {x : Operand} (hx : okO N G x = true) (hs : P.underlying s = some (.int j)) (hd : P.underlying d = some (.int k)) :
  PureOK P N G n ρ ⟨dst, .convert s d x, ty, pos, after, guard⟩ (.conv k x) := by
 intro e a H H' v hf h
 have h1 := hf.op hx
 simp only [aop] at h
 split at h
 ·rename_i q i hi
  simp only [ARes.val.injEq] at h
  obtain ⟨rfl, rfl⟩ := h
  rw [hi] at h1
  refine ⟨rfl, _, .int _ _, fun w => ?_⟩
  simp [execOp, h1.inv_int, convert, run_und hs, run_und hd, Conv.intToInt]
 ·cases h
theorem pure_convId {s d : TypeId} {x : Operand} (hx : okO N G x = true) (hs : P.underlying s = some .string) (hd : P.underlying d = some .string) :
  PureOK P N G n ρ ⟨dst, .convert s d x, ty, pos, after, guard⟩ (.idStr x) := by
 intro e a H H' v hf h
 have h1 := hf.op hx
 simp only [aop] at h
 split at h
 ·rename_i t ht
  simp only [ARes.val.injEq] at h
  obtain ⟨rfl, rfl⟩ := h
  rw [ht] at h1
  refine ⟨rfl, _, .string _, fun w => ?_⟩
  simp [execOp, h1.inv_string, convert, run_und hs, run_und hd]
 ·cases h
theorem pure_mkIface {t : TypeId} {d : TypeDesc} {x : Operand} (hx : okO N G x = true) (hu : P.underlying t = some d) (hd : ∀ m, d ≠ .interface m) :
  PureOK P N G n ρ ⟨dst, .makeInterface t x, ty, pos, after, guard⟩ (.mkIface t x) := by
 intro e a H H' v hf h
 simp only [aop, ARes.val.injEq] at h
 obtain ⟨rfl, rfl⟩ := h
 refine ⟨rfl, _, .iface _ _ _ (hf.op hx), fun w => ?_⟩
 simp only [execOp, Instr.makeInterface, Sem.run_bind, run_und hu, Result.andThen_ok]
 rfl
theorem vl_ops {e : Env} {a : Act} (hf : Fits G N n ρ e a) (l : List Operand) (h : l.all (okO N G) = true) : VL n ρ (l.map (aev e)) (l.map a.eval) :=
 VL.map l _ _ fun x hx => hf.op (List.all_eq_true.1 h x hx)
theorem pure_mkFunc {f : FuncId} {first captured : Array Operand} (h1 : first.toList.all (okO N G) = true) (h2 : captured.toList.all (okO N G) = true) :
  PureOK P N G n ρ ⟨dst, .makeFunc (.func f) first captured, ty, pos, after, guard⟩ (.mkFunc f first.toList captured.toList) := by
 intro e a H H' v hf h
 simp only [aop, ARes.val.injEq] at h
 obtain ⟨rfl, rfl⟩ := h
 have a1 := VL.arrays (c := ((first.toList.map (aev e)).toArray)) (c' := first.map a.eval) (by simpa using vl_ops hf _ h1)
 have a2 := VL.arrays (c := ((captured.toList.map (aev e)).toArray)) (c' := captured.map a.eval) (by simpa using vl_ops hf _ h2)
 exact ⟨rfl, _, .func _ _ _ _ _ a1.1 a2.1 a1.2 a2.2, fun w => by simp [execOp, Instr.makeFunc]⟩
theorem bound_none {e : Env} {d m r : Nat} (h : bound e none d m = some r) : r = d := by simp only [bound] at h; exact (Option.some.inj h).symm
theorem bound_some {e : Env} {x : Operand} {d m r : Nat} (h : bound e (some x) d m = some r) : ∃ k i, aev e x = .int k i ∧ 0 ≤ i ∧ i ≤ m ∧ r = i.toNat := by
 simp only [bound] at h
 split at h
 ·rename_i k i hi
  split at h
  ·rename_i hc
   exact ⟨k, i, hi, hc.1, hc.2, (Option.some.inj h).symm⟩
  ·cases h
 ·cases h
theorem run_bound {e : Env} {a : Act} (hf : Fits G N n ρ e a) {x : Operand} (hx : okO N G x = true) {d m m' r : Nat} {c : BoundsCode} (h : bound e (some x) d m = some r) (hm : m ≤ m') (w : World) :
  (Instr.sliceBound (a.eval x) m' c).run P w = .ok r w := by
 obtain ⟨k, i, hi, h0, h1, rfl⟩ := bound_some h
 have h2 := hf.op hx
 rw [hi] at h2
 simp only [Instr.sliceBound, h2.inv_int, asIntOf]
 simp only [Sem.run_bind, Sem.run_pure, Result.andThen_ok]
 rw [if_pos ⟨h0, by omega⟩]
 rfl
theorem bound_le {e : Env} {x : Option Operand} {d m r : Nat} (h : bound e x d m = some r) (hd : d ≤ m) : r ≤ m := by
 cases x with
 | none => rw [bound_none h]; exact hd
 | some x => obtain ⟨k, i, hi, h0, h1, rfl⟩ := bound_some h; omega
/-- The model's bounds, where there is no third one: the capacity may be greater than ours. -/
theorem run_bounds {e : Env} {a : Act} (hf : Fits G N n ρ e a) {lo hi : Option Operand} (hlo : optOk N G lo = true) (hhi : optOk N G hi = true) {len cap cap' h l : Nat} {isS : Bool}
  (hh : bound e hi len cap = some h) (hl : bound e lo 0 h = some l) (hc : cap ≤ cap') (w : World) :
  (Instr.sliceBounds isS len cap' (lo.map a.eval) (hi.map a.eval) none).run P w = .ok (l, h, cap') w := by
 unfold Instr.sliceBounds
 cases hi with
 | none =>
  have := bound_none hh
  subst this
  cases lo with
  | none => have := bound_none hl; subst this; rfl
  | some x =>
   simp only [Option.map_none, Option.map_some, Sem.run_bind, Sem.run_pure, Result.andThen_ok]
   simp only [run_bound hf hlo hl (Nat.le_refl _), Result.andThen_ok]
 | some y =>
  simp only [Option.map_some, Sem.run_bind, Sem.run_pure, Result.andThen_ok]
  rw [run_bound hf hhi hh hc]
  cases lo with
  | none => have := bound_none hl; subst this; rfl
  | some x =>
   simp only [Option.map_some, Sem.run_bind, Sem.run_pure, Result.andThen_ok]
   simp only [run_bound hf hlo hl (Nat.le_refl _), Result.andThen_ok]
theorem pure_slStr {t : TypeId} {x : Operand} {lo hi : Option Operand} (hx : okO N G x = true) (hlo : optOk N G lo = true) (hhi : optOk N G hi = true) (hu : P.underlying t = some .string) :
  PureOK P N G n ρ ⟨dst, .slice t x lo hi none, ty, pos, after, guard⟩ (.slStr x lo hi) := by
 intro e a H H' v hf h
 have h1 := hf.op hx
 simp only [aop] at h
 split at h
 ·rename_i s hs
  rw [hs] at h1
  split at h
  ·cases h
  ·rename_i hh hhb
   split at h
   ·cases h
   ·rename_i l hlb
    simp only [ARes.val.injEq] at h
    obtain ⟨rfl, rfl⟩ := h
    refine ⟨rfl, _, .string _, fun w => ?_⟩
    simp only [execOp, Instr.sliceAt, Instr.slice, Sem.run_bind, run_und hu, Result.andThen_ok, h1.inv_string, Option.map_none, Option.isSome_none]
    rw [if_neg (by simp)]
    simp only [Sem.run_bind, run_bounds hf hlo hhi hhb hlb (Nat.le_refl _), Result.andThen_ok]
    rfl
 ·cases h
theorem pure_slSl {t el : TypeId} {u : Nat} {x : Operand} {lo hi : Option Operand} (hx : okO N G x = true) (hlo : optOk N G lo = true) (hhi : optOk N G hi = true)
  (hu : P.underlying t = some (.slice el)) (hs : szOf P el = some u) : PureOK P N G n ρ ⟨dst, .slice t x lo hi none, ty, pos, after, guard⟩ (.slSl u x lo hi) := by
 intro e a H H' v hf h
 have h1 := hf.op hx
 simp only [aop] at h
 split at h
 ·rename_i ad len c hs2
  rw [hs2] at h1
  split at h
  ·cases h
  ·rename_i hh hhb
   split at h
   ·cases h
   ·rename_i l hlb
    rcases h1.inv_slice with ⟨rfl, rfl, rfl, hv⟩ | ⟨b, o, c', rfl, hb, hc0, hc1, hc2, hv⟩ | ⟨b, o, k, a', c', rfl, rfl, rfl, hv⟩
    ·simp only [ARes.val.injEq] at h
     obtain ⟨rfl, rfl⟩ := h
     have e1 := bound_le hhb (Nat.le_refl _)
     have e2 := bound_le hlb (Nat.zero_le _)
     have : hh = 0 := by omega
     subst this
     have : l = 0 := by omega
     subst this
     refine ⟨rfl, _, .slNil, fun w => ?_⟩
     simp only [execOp, Instr.sliceAt, Instr.slice, Sem.run_bind, run_und hu, Result.andThen_ok, hv, Option.map_none, run_bounds hf hlo hhi hhb hlb (Nat.le_refl _), run_size hs]
     rfl
    ·simp only [ARes.val.injEq] at h
     obtain ⟨rfl, rfl⟩ := h
     have e2 : l ≤ hh := bound_le hlb (Nat.zero_le _)
     by_cases hcl : c = l ∧ l ≠ 0
     ·rw [if_pos hcl]
      have e1 : hh ≤ c ∨ hh = len := by
       cases hi with
       | none => exact .inr (bound_none hhb)
       | some y => obtain ⟨k, i, hi, h0, h1, rfl⟩ := bound_some hhb; exact .inl (by omega)
      refine ⟨rfl, .slice (some (if c' = l then ⟨(ρ b).blk, (ρ b).off + o, none⟩ else ⟨(ρ b).blk, (ρ b).off + o + l * u, none⟩)) (hh - l) (c' - l), ?_, fun w => ?_⟩
      ·have z1 : hh - l = 0 := by omega
       have z2 : c - l = 0 := by omega
       rw [z1, z2]
       exact .slE _ _ _ _ _
      ·simp only [execOp, Instr.sliceAt, Instr.slice, Sem.run_bind, run_und hu, Result.andThen_ok, hv, Option.map_none, run_bounds hf hlo hhi hhb hlb hc1, run_size hs, Option.map_some, add_spot, Sem.run_pure]
       split <;> rfl
     ·rw [if_neg hcl]
      have e1 : hh ≤ c := bound_le hhb hc0
      refine ⟨rfl, .slice (some ⟨(ρ b).blk, (ρ b).off + (o + l * u), none⟩) (hh - l) (c' - l), (.sl _ _ _ _ _ hb ?_ (by omega) ?_), fun w => ?_⟩
      ·omega
      ·omega
      simp only [execOp, Instr.sliceAt, Instr.slice, Sem.run_bind, run_und hu, Result.andThen_ok, hv, Option.map_none, run_bounds hf hlo hhi hhb hlb hc1, run_size hs, Option.map_some, add_spot, Sem.run_pure]
      split
      ·rename_i hcl2
       have : l = 0 := by omega
       subst this
       simp
      ·simp [Nat.add_assoc]
    ·simp only [ARes.val.injEq] at h
     obtain ⟨rfl, rfl⟩ := h
     have e1 := bound_le hhb (Nat.le_refl _)
     have e2 := bound_le hlb (Nat.zero_le _)
     have : hh = 0 := by omega
     subst this
     have : l = 0 := by omega
     subst this
     refine ⟨rfl, .slice (some (if c' = 0 then a' else a'.add (0 * u))) 0 c', .slE _ _ _ _ _, fun w => ?_⟩
     simp only [execOp, Instr.sliceAt, Instr.slice, Sem.run_bind, run_und hu, Result.andThen_ok, hv, Option.map_none, run_bounds hf hlo hhi hhb hlb (Nat.zero_le _), run_size hs, Option.map_some, Sem.run_pure]
     split <;> rfl
 ·cases h
end
section
variable {P : Program} {N G n : Nat} {ρ : Nat → Place}
variable {dst : Option Nat} {ty : TypeId} {pos : String} {after : Array Edge} {guard : Option (Nat × Bool)}
theorem pure_slArr {t el : TypeId} {m u : Nat} {x : Operand} {lo hi : Option Operand} (hx : okO N G x = true) (hlo : optOk N G lo = true) (hhi : optOk N G hi = true)
  (hs : szOf P el = some u) (hu : P.underlying t = some (.array m el) ∨ ∃ t', P.underlying t = some (.pointer t') ∧ P.underlying t' = some (.array m el)) :
  PureOK P N G n ρ ⟨dst, .slice t x lo hi none, ty, pos, after, guard⟩ (.slArr m u x lo hi) := by
 intro e a H H' v hf h
 have h1 := hf.op hx
 simp only [aop] at h
 split at h
 ·rename_i b o hb
  rw [hb] at h1
  obtain ⟨hbn, hv⟩ := h1.inv_ptr
  split at h
  ·cases h
  ·rename_i hh hhb
   split at h
   ·cases h
   ·rename_i l hlb
    simp only [ARes.val.injEq] at h
    obtain ⟨rfl, rfl⟩ := h
    have e2 : l ≤ hh := bound_le hlb (Nat.zero_le _)
    have e1 : hh ≤ m := bound_le hhb (Nat.le_refl _)
    have run : ∀ w, (execOp a.eval ⟨dst, .slice t x lo hi none, ty, pos, after, guard⟩).run P w = .ok (.value (.slice (some (if m = l then ⟨(ρ b).blk, (ρ b).off + o, none⟩ else ⟨(ρ b).blk, (ρ b).off + o + l * u, none⟩)) (hh - l) (m - l))) w := by
     intro w
     rcases hu with hu | ⟨t', hu, hu'⟩
     ·simp only [execOp, Instr.sliceAt, Sem.run_bind, run_und hu, Result.andThen_ok, hv, Instr.sureAddr, Sem.run_pure, Option.map_none, run_bounds hf hlo hhi hhb hlb (Nat.le_refl _), run_size hs, add_spot]
     ·simp only [execOp, Instr.sliceAt, Instr.slice, Sem.run_bind, run_und hu, run_und hu', Result.andThen_ok, hv, asAddr, Sem.run_pure, Option.map_none, run_bounds hf hlo hhi hhb hlb (Nat.le_refl _), run_size hs, add_spot]
    by_cases hcl : m = l ∧ l ≠ 0
    ·rw [if_pos hcl]
     have z1 : hh - l = 0 := by omega
     have z2 : m - l = 0 := by omega
     refine ⟨rfl, _, ?_, run⟩
     rw [z1, z2]
     exact .slE _ _ _ _ _
    ·rw [if_neg hcl]
     refine ⟨rfl, .slice (some ⟨(ρ b).blk, (ρ b).off + (o + l * u), none⟩) (hh - l) (m - l), .sl _ _ _ _ _ hbn (by omega) (Nat.le_refl _) (Nat.le_add_right _ _), fun w => ?_⟩
     rw [run w]
     split
     ·have : l = 0 := by omega
      subst this
      simp
     ·simp [Nat.add_assoc]
 ·cases h
theorem pure_fAddr {s : TypeId} {fs : Array Field} {i k : Nat} {f : Field} {x : Operand} (hx : okO N G x = true) (hu : P.underlying s = some (.struct fs)) (hf1 : fs[i]? = some f) (hk : szOf P f.type = some (k + 1)) :
  PureOK P N G n ρ ⟨dst, .fieldAddr s x i, ty, pos, after, guard⟩ (.fAddr f.offset x) := by
 intro e a H H' v hf h
 have h1 := hf.op hx
 simp only [aop] at h
 split at h
 ·rename_i b o hb
  simp only [ARes.val.injEq] at h
  obtain ⟨rfl, rfl⟩ := h
  rw [hb] at h1
  obtain ⟨hbn, hv⟩ := h1.inv_ptr
  refine ⟨rfl, .pointer (some ⟨(ρ b).blk, (ρ b).off + (o + f.offset), none⟩), .ptr _ _ hbn, fun w => ?_⟩
  simp only [execOp, Instr.fieldAt, Sem.run_bind, run_und hu, Result.andThen_ok, hf1, hv, Instr.sureAddr, Sem.run_pure, fieldPlace, run_size hk, add_spot, Nat.add_assoc]
  rw [if_neg (by omega)]
  rfl
 ·cases h
theorem extract_vl {c c' : Array Value} (h : VL n ρ c.toList c'.toList) (off k : Nat) : VL n ρ (cutCells c.toList off k) (c'.extract off (off + k)).toList := by
 rw [Array.toList_extract]
 simp only [cutCells, List.extract_eq_take_drop, Nat.add_sub_cancel_left]
 exact (h.drop off).take k
theorem pure_field1 {s : TypeId} {fs : Array Field} {i : Nat} {f : Field} {x : Operand} (hx : okO N G x = true) (hu : P.underlying s = some (.struct fs)) (hf1 : fs[i]? = some f) (hk : aggT P f.type = some false) :
  PureOK P N G n ρ ⟨dst, .field s x i, ty, pos, after, guard⟩ (.field1 f.offset x) := by
 intro e a H H' v hf h
 have h1 := hf.op hx
 simp only [aop] at h
 split at h
 ·rename_i cs hcs
  obtain ⟨h3, rfl⟩ := ofO_val h
  rw [hcs] at h1
  obtain ⟨c', hv, hvl⟩ := h1.inv_agg
  obtain ⟨y, hy, hr⟩ := hvl.get h3
  refine ⟨rfl, y, hr, fun w => ?_⟩
  have hy' : c'[f.offset]? = some y := by simpa using hy
  simp [execOp, Instr.field, run_und hu, hf1, hv, asAgg, part, run_agg hk, hy']
 ·cases h
theorem pure_fieldN {s : TypeId} {fs : Array Field} {i k : Nat} {f : Field} {x : Operand} (hx : okO N G x = true) (hu : P.underlying s = some (.struct fs)) (hf1 : fs[i]? = some f) (hk : aggT P f.type = some true) (hs : szOf P f.type = some k) :
  PureOK P N G n ρ ⟨dst, .field s x i, ty, pos, after, guard⟩ (.fieldN f.offset k x) := by
 intro e a H H' v hf h
 have h1 := hf.op hx
 simp only [aop] at h
 split at h
 ·rename_i cs hcs
  split at h
  ·simp only [ARes.val.injEq] at h
   obtain ⟨rfl, rfl⟩ := h
   rw [hcs] at h1
   obtain ⟨c', hv, hvl⟩ := h1.inv_agg
   refine ⟨rfl, .agg (c'.extract f.offset (f.offset + k)), ?_, fun w => ?_⟩
   ·have := VL.agg (extract_vl hvl f.offset k)
    rwa [Array.toArray_toList] at this
   ·simp [execOp, Instr.field, run_und hu, hf1, hv, asAgg, part, run_agg hk, run_size hs]
  ·cases h
 ·cases h
theorem pure_iAddrArr {t el : TypeId} {m u : Nat} {x i : Operand} (hx : okO N G x = true) (hi : okO N G i = true) (hu : P.underlying t = some (.array m el)) (hs : szOf P el = some u) :
  PureOK P N G n ρ ⟨dst, .indexAddr t x i, ty, pos, after, guard⟩ (.iAddrArr m u x i) := by
 intro e a H H' v hf h
 have h1 := hf.op hx
 have h2 := hf.op hi
 simp only [aop] at h
 split at h
 ·rename_i b o k j hb hj
  split at h
  ·rename_i hc
   simp only [ARes.val.injEq] at h
   obtain ⟨rfl, rfl⟩ := h
   rw [hb] at h1; rw [hj] at h2
   obtain ⟨hbn, hv⟩ := h1.inv_ptr
   refine ⟨rfl, .pointer (some ⟨(ρ b).blk, (ρ b).off + (o + j.toNat * u), none⟩), .ptr _ _ hbn, fun w => ?_⟩
   simp only [execOp, Instr.indexAt, h2.inv_int, asIntOf, Sem.run_bind, Sem.run_pure, Result.andThen_ok, run_und hu, hv, Instr.sureAddr]
   simp only [if_pos hc, Sem.run_bind, run_size hs, Result.andThen_ok, Sem.run_pure, add_spot, Nat.add_assoc]
  ·cases h
 ·cases h
theorem pure_iAddrSl {t el : TypeId} {u : Nat} {x i : Operand} (hx : okO N G x = true) (hi : okO N G i = true) (hu : P.underlying t = some (.slice el)) (hs : szOf P el = some u) :
  PureOK P N G n ρ ⟨dst, .indexAddr t x i, ty, pos, after, guard⟩ (.iAddrSl u x i) := by
 intro e a H H' v hf h
 have h1 := hf.op hx
 have h2 := hf.op hi
 simp only [aop] at h
 split at h
 ·rename_i b o len c k j hb hj
  split at h
  ·rename_i hc
   simp only [ARes.val.injEq] at h
   obtain ⟨rfl, rfl⟩ := h
   rw [hb] at h1; rw [hj] at h2
   rcases h1.inv_slice with ⟨h3, _⟩ | ⟨b', o', c', h3, hbn, hc0, hc1, hc2, hv⟩ | ⟨b', o', k', a', c', h3, _⟩
   ·cases h3
   ·cases h3
    refine ⟨rfl, .pointer (some ⟨(ρ b).blk, (ρ b).off + (o + j.toNat * u), none⟩), .ptr _ _ hbn, fun w => ?_⟩
    simp only [execOp, Instr.indexAt, h2.inv_int, asIntOf, Sem.run_bind, Sem.run_pure, Result.andThen_ok, run_und hu, hv]
    simp only [if_pos hc, Sem.run_bind, run_size hs, Result.andThen_ok, Sem.run_pure, add_spot, Nat.add_assoc]
   ·cases h3
  ·cases h
 ·cases h
theorem pure_idxStr {t : TypeId} {x i : Operand} (hx : okO N G x = true) (hi : okO N G i = true) (hu : P.underlying t = some .string) :
  PureOK P N G n ρ ⟨dst, .index t x i, ty, pos, after, guard⟩ (.idxStr x i) := by
 intro e a H H' v hf h
 have h1 := hf.op hx
 have h2 := hf.op hi
 simp only [aop] at h
 split at h
 ·rename_i s k j hs hj
  split at h
  ·rename_i hc
   obtain ⟨h3, rfl⟩ := ofO_val h
   obtain ⟨b, hb, rfl⟩ := Option.map_eq_some_iff.1 h3
   rw [hs] at h1; rw [hj] at h2
   refine ⟨rfl, _, .int _ _, fun w => ?_⟩
   have hb' : s[j.toNat]? = some b := by
    obtain ⟨q, rfl⟩ := List.getElem?_eq_some_iff.1 hb
    have hq : j.toNat < s.size := by simpa using q
    rw [getElem?_pos s j.toNat hq]
    rfl
   simp only [execOp, Instr.index, h2.inv_int, asIntOf, Sem.run_bind, Sem.run_pure, Result.andThen_ok, run_und hu, h1.inv_string, if_pos hc, hb']
  ·cases h
 ·cases h
theorem pure_idxArr1 {t el : TypeId} {m : Nat} {x i : Operand} (hx : okO N G x = true) (hi : okO N G i = true) (hu : P.underlying t = some (.array m el)) (hk : aggT P el = some false) (hs : szOf P el = some 1) :
  PureOK P N G n ρ ⟨dst, .index t x i, ty, pos, after, guard⟩ (.idxArr1 m x i) := by
 intro e a H H' v hf h
 have h1 := hf.op hx
 have h2 := hf.op hi
 simp only [aop] at h
 split at h
 ·rename_i cs k j hs2 hj
  split at h
  ·rename_i hc
   obtain ⟨h3, rfl⟩ := ofO_val h
   rw [hs2] at h1; rw [hj] at h2
   obtain ⟨c', hv, hvl⟩ := h1.inv_agg
   obtain ⟨y, hy, hr⟩ := hvl.get h3
   have hy' : c'[j.toNat * 1]? = some y := by simpa using hy
   refine ⟨rfl, y, hr, fun w => ?_⟩
   simp only [execOp, Instr.index, h2.inv_int, asIntOf, Sem.run_bind, Sem.run_pure, Result.andThen_ok, run_und hu, hv, if_pos hc, run_size hs, part, run_agg hk, Bool.false_eq_true, if_false, hy']
  ·cases h
 ·cases h
theorem pure_idxArrN {t el : TypeId} {m u : Nat} {x i : Operand} (hx : okO N G x = true) (hi : okO N G i = true) (hu : P.underlying t = some (.array m el)) (hk : aggT P el = some true) (hs : szOf P el = some u) :
  PureOK P N G n ρ ⟨dst, .index t x i, ty, pos, after, guard⟩ (.idxArrN m u x i) := by
 intro e a H H' v hf h
 have h1 := hf.op hx
 have h2 := hf.op hi
 simp only [aop] at h
 split at h
 ·rename_i cs k j hs2 hj
  split at h
  ·rename_i hc
   simp only [ARes.val.injEq] at h
   obtain ⟨rfl, rfl⟩ := h
   rw [hs2] at h1; rw [hj] at h2
   obtain ⟨c', hv, hvl⟩ := h1.inv_agg
   refine ⟨rfl, .agg (c'.extract (j.toNat * u) (j.toNat * u + u)), ?_, fun w => ?_⟩
   ·have := VL.agg (extract_vl hvl (j.toNat * u) u)
    rwa [Array.toArray_toList] at this
   ·simp only [execOp, Instr.index, h2.inv_int, asIntOf, Sem.run_bind, Sem.run_pure, Result.andThen_ok, run_und hu, hv, if_pos (show 0 ≤ j ∧ j < (m : Int) from ⟨hc.1, hc.2.1⟩), run_size hs, part, run_agg hk, if_true]
  ·cases h
 ·cases h
theorem pure_extract {x : Operand} {i : Nat} (hx : okO N G x = true) : PureOK P N G n ρ ⟨dst, .extract x i, ty, pos, after, guard⟩ (.extract x i) := by
 intro e a H H' v hf h
 have h1 := hf.op hx
 simp only [aop] at h
 split at h
 ·rename_i vs hvs
  obtain ⟨h3, rfl⟩ := ofO_val h
  rw [hvs] at h1
  obtain ⟨c', hv, hvl⟩ := h1.inv_tuple
  obtain ⟨y, hy, hr⟩ := hvl.get h3
  have hy' : c'[i]? = some y := by simpa using hy
  exact ⟨rfl, y, hr, fun w => by simp [execOp, Instr.extract, hv, hy']⟩
 ·cases h
theorem pure_tAssert {xt t : TypeId} {d : TypeDesc} {x : Operand} (hx : okO N G x = true) (hu : P.underlying t = some d) (hd : ∀ m, d ≠ .interface m) :
  PureOK P N G n ρ ⟨dst, .typeAssert x xt t false, ty, pos, after, guard⟩ (.tAssert t x) := by
 intro e a H H' v hf h
 have h1 := hf.op hx
 simp only [aop] at h
 split at h
 ·rename_i u y hy
  split at h
  ·rename_i he
   simp only [ARes.val.injEq] at h
   obtain ⟨rfl, rfl⟩ := h
   rw [hy] at h1
   obtain ⟨y', hv, hr⟩ := h1.inv_iface
   refine ⟨rfl, y', hr, fun w => ?_⟩
   simp only [execOp, Instr.typeAssert, Sem.run_bind, run_und hu, Result.andThen_ok, hv]
   cases d <;> first
    | exact absurd rfl (hd _)
    | (simp only [if_pos he]; rfl)
  ·cases h
 ·cases h
theorem pure_lenStr {t : TypeId} {c : Call} {x : Operand} (hc : c.callee = .builtin .len) (ha : c.args.toList = [x]) (ht : c.argTypes[0]? = some t) (hx : okO N G x = true) (hu : P.underlying t = some .string) :
  PureOK P N G n ρ ⟨dst, .call c, ty, pos, after, guard⟩ (.lenStr x) := by
 intro e a H H' v hf h
 have h1 := hf.op hx
 simp only [aop] at h
 split at h
 ·rename_i s hs
  simp only [ARes.val.injEq] at h
  obtain ⟨rfl, rfl⟩ := h
  rw [hs] at h1
  have hargs : (c.args.map a.eval)[0]? = some (a.eval x) := by
   have : c.args = #[x] := by rw [← Array.toArray_toList (xs := c.args), ha]
   simp [this]
  exact ⟨rfl, _, .int _ _, fun w => by simp [execOp, resolve, hc, invoke, builtin, Builtin.len_, ht, hargs, run_und hu, h1.inv_string, goInt, -Array.getElem?_map]⟩
 ·cases h
theorem pure_lenSl {t el : TypeId} {c : Call} {x : Operand} (hc : c.callee = .builtin .len) (ha : c.args.toList = [x]) (ht : c.argTypes[0]? = some t) (hx : okO N G x = true) (hu : P.underlying t = some (.slice el)) :
  PureOK P N G n ρ ⟨dst, .call c, ty, pos, after, guard⟩ (.lenSl x) := by
 intro e a H H' v hf h
 have h1 := hf.op hx
 simp only [aop] at h
 split at h
 ·rename_i ad l cc hs
  simp only [ARes.val.injEq] at h
  obtain ⟨rfl, rfl⟩ := h
  rw [hs] at h1
  have hargs : (c.args.map a.eval)[0]? = some (a.eval x) := by
   have : c.args = #[x] := by rw [← Array.toArray_toList (xs := c.args), ha]
   simp [this]
  have hlen : ∃ ad' cc', a.eval x = .slice ad' l cc' := by
   rcases h1.inv_slice with ⟨_, h3, _, h2⟩ | ⟨b, o, c', _, _, _, _, _, h2⟩ | ⟨b, o, k, a', c', _, h3, _, h2⟩
   ·exact ⟨_, _, by rw [h2, h3]⟩
   ·exact ⟨_, _, h2⟩
   ·exact ⟨_, _, by rw [h2, h3]⟩
  obtain ⟨ad', cc', h2⟩ := hlen
  exact ⟨rfl, _, .int _ _, fun w => by simp [execOp, resolve, hc, invoke, builtin, Builtin.len_, ht, hargs, run_und hu, h2, goInt, -Array.getElem?_map]⟩
 ·cases h
theorem pure_lenK {t el : TypeId} {m : Nat} {c : Call} {x : Operand} (hc : c.callee = .builtin .len) (ha : c.args.toList = [x]) (ht : c.argTypes[0]? = some t)
  (hu : P.underlying t = some (.array m el) ∨ ∃ t', P.underlying t = some (.pointer t') ∧ P.underlying t' = some (.array m el)) :
  PureOK P N G n ρ ⟨dst, .call c, ty, pos, after, guard⟩ (.lenK m) := by
 intro e a H H' v hf h
 simp only [aop, ARes.val.injEq] at h
 obtain ⟨rfl, rfl⟩ := h
 have hargs : (c.args.map a.eval)[0]? = some (a.eval x) := by
  have : c.args = #[x] := by rw [← Array.toArray_toList (xs := c.args), ha]
  simp [this]
 refine ⟨rfl, _, .int _ _, fun w => ?_⟩
 rcases hu with hu | ⟨t', hu, hu'⟩
 ·simp [execOp, resolve, hc, invoke, builtin, Builtin.len_, ht, hargs, run_und hu, goInt, -Array.getElem?_map]
 ·simp [execOp, resolve, hc, invoke, builtin, Builtin.len_, ht, hargs, run_und hu, run_und hu', goInt, -Array.getElem?_map]
theorem mm_sound {big : Bool} : ∀ (l l' : List Value) (x x' z : Value), VR n ρ x x' → VL n ρ l l' → mmL big x l = some z →
  ∃ z', VR n ρ z z' ∧ ∀ w, (l'.foldlM (fun a b => if big then Builtin.max2 a b else Builtin.min2 a b) x' : Sem Value).run P w = .ok z' w := by
 intro l
 induction l with
 | nil =>
  intro l' x x' z hx hl h
  have : l' = [] := List.eq_nil_of_length_eq_zero (by have := hl.1; simpa using this.symm)
  subst this
  simp only [mmL] at h
  cases h
  exact ⟨x', hx, fun w => rfl⟩
 | cons y l ih =>
  intro l' x x' z hx hl h
  cases l' with
  | nil => have := hl.1; simp at this
  | cons y' l' =>
   simp only [mmL] at h
   split at h
   ·rename_i q hq
    unfold mm2 at hq
    split at hq
    ·rename_i k i k' j
     split at hq
     ·rename_i hk
      subst hk
      injection hq with hq
      subst hq
      have e1 := hx.inv_int
      have e2 := hl.head.inv_int
      obtain ⟨z', hz, hrun⟩ := ih l' _ _ z (.int k _) hl.tail h
      refine ⟨z', hz, fun w => ?_⟩
      rw [List.foldlM_cons, e1, e2]
      cases big <;> simp [Builtin.max2, Builtin.min2] at hrun ⊢ <;> exact hrun w
     ·cases hq
    ·cases hq
   ·cases h
theorem pure_mm {big : Bool} {c : Call} (hc : c.callee = .builtin (if big then .max else .min)) (hx : c.args.toList.all (okO N G) = true) :
  PureOK P N G n ρ ⟨dst, .call c, ty, pos, after, guard⟩ (.mm big c.args.toList) := by
 intro e a H H' v hf h
 simp only [aop] at h
 have hl := vl_ops hf _ hx
 split at h
 ·cases h
 ·rename_i x l hxl
  obtain ⟨h3, rfl⟩ := ofO_val h
  rw [hxl] at hl
  cases hm : c.args.toList.map a.eval with
  | nil => rw [hm] at hl; have := hl.1; simp at this
  | cons x' l' =>
   rw [hm] at hl
   obtain ⟨z', hz, hrun⟩ := mm_sound (P := P) l l' x x' v hl.head hl.tail h3
   refine ⟨rfl, z', hz, fun w => ?_⟩
   have hm' : (c.args.map a.eval).toList = x' :: l' := by simpa using hm
   have := hrun w
   cases big
   ·simp only [Bool.false_eq_true, if_false] at hc this
    simp [execOp, resolve, hc, invoke, builtin, Builtin.min_, hm', this, -Array.toList_map]
   ·simp only [if_true] at hc this
    simp [execOp, resolve, hc, invoke, builtin, Builtin.max_, hm', this, -Array.toList_map]
end
section
variable {P : Program} {N G n : Nat} {ρ : Nat → Place}
variable {dst : Option Nat} {ty : TypeId} {pos : String} {after : Array Edge} {guard : Option (Nat × Bool)}
theorem eqL_append : ∀ (a b : List (Nat × Value × Value)) (r : Bool), eqL (a ++ b) = some r → (eqL a = some true ∧ eqL b = some r) ∨ (eqL a = some false ∧ r = false) := by
 intro a
 induction a with
 | nil => intro b r h; exact .inl ⟨rfl, h⟩
 | cons x a ih =>
  intro b r h
  obtain ⟨t, x, y⟩ := x
  simp only [List.cons_append, eqL] at h ⊢
  split at h
  ·exact ih b r h
  ·cases h; exact .inr ⟨rfl, rfl⟩
  ·cases h
/-- The part of a type at a place. -/
def partV (P : Program) (t : TypeId) (xs : Array Value) (off : Nat) : Value :=
 match aggT P t, szOf P t with
 | some true, some n => .agg (xs.extract off (off + n))
 | _, _ => xs.toList.getD off undef
def itemsOf (xs ys : Array Value) (l : List (Nat × Nat)) : List (Nat × Value × Value) := l.map fun f => (f.2, xs.toList.getD f.1 undef, ys.toList.getD f.1 undef)
theorem beq_bytes (a b : ByteArray) : (a == b) = (a.data.toList == b.data.toList) := by
 have e : (a == b) = (a.data == b.data) := rfl
 rw [e, Bool.eq_iff_iff, beq_iff_eq, beq_iff_eq, Array.toList_inj]
def EqAt (P : Program) (d : Nat) (t : TypeId) (off : Nat) (l : List (Nat × Nat)) : Prop :=
 ∀ (d' : Nat) (xs ys : Array Value) (r : Bool) (w : World), eqL (itemsOf xs ys l) = some r → (Op.equalIn (d' + d) t (partV P t xs off) (partV P t ys off)).run P w = .ok r w
theorem itemsOf_append (xs ys : Array Value) (a b : List (Nat × Nat)) : itemsOf xs ys (a ++ b) = itemsOf xs ys a ++ itemsOf xs ys b := by simp [itemsOf]
theorem eqL_one {t : Nat} {x y : Value} {r : Bool} (h : eqL [(t, x, y)] = some r) : eqT1 t x y = some r := by
 simp only [eqL] at h
 split at h
 ·rename_i hq; rw [hq]; exact h
 ·rename_i hq; rw [hq]; exact h
 ·cases h
/-- A part of a part. -/
theorem run_part {t : TypeId} {s sz off fo : Nat} {xs : Array Value} (hs : szOf P t = some s) (h0 : s ≠ 0) (hle : fo + s ≤ sz) (b : Bool) (hb : aggT P t = some b) (hin : b = false → off + fo < xs.size) (w : World) :
  (part t (xs.extract off (off + sz)) fo).run P w = .ok (partV P t xs (off + fo)) w := by
 unfold part partV
 simp only [Sem.run_bind, run_agg hb, Result.andThen_ok, hb, hs]
 cases b with
 | true =>
  simp only [if_true, Sem.run_bind, run_size hs, Result.andThen_ok, Sem.run_pure]
  rw [Array.extract_extract]
  congr 3
  ·omega
 | false =>
  have := hin rfl
  have e1 : (xs.extract off (off + sz))[fo]? = some xs[off + fo] := by
   rw [Array.getElem?_extract]
   rw [if_pos (by omega)]
   simp [this]
  simp [e1, this]
theorem agg_of_flat {d : Nat} {t : TypeId} {off : Nat} {l : List (Nat × Nat)} (h : flatOf P d t off = some l) : ∃ b, aggT P t = some b ∧ (b = false → ∃ tag, l = [(off, tag)]) := by
 cases d with
 | zero => cases h
 | succ d =>
  simp only [flatOf] at h
  unfold aggT
  split at h
  ·rename_i hu; rw [hu]; cases h; exact ⟨false, rfl, fun _ => ⟨_, rfl⟩⟩
  ·rename_i hu; rw [hu]; cases h; exact ⟨false, rfl, fun _ => ⟨_, rfl⟩⟩
  ·rename_i hu; rw [hu]; cases h; exact ⟨false, rfl, fun _ => ⟨_, rfl⟩⟩
  ·rename_i hu; rw [hu]; exact ⟨true, rfl, fun h => by cases h⟩
  ·rename_i hu; rw [hu]; exact ⟨true, rfl, fun h => by cases h⟩
  ·cases h
theorem in_of_eqT1 {tag o : Nat} {xs ys : Array Value} {r : Bool} (h : eqL (itemsOf xs ys [(o, tag)]) = some r) : o < xs.size ∧ o < ys.size := by
 have h := eqL_one h
 have un : ∀ x, eqT1 tag undef x = none := fun x => by rcases tag with _ | _ | _ | tag <;> rfl
 have un2 : ∀ x, eqT1 tag x undef = none := fun x => by rcases tag with _ | _ | _ | tag <;> cases x <;> rfl
 constructor
 ·rcases Nat.lt_or_ge o xs.size with h1 | h1
  ·exact h1
  ·rw [List.getD_eq_getElem?_getD, List.getElem?_eq_none (by simpa using h1)] at h
   simp [un] at h
 ·rcases Nat.lt_or_ge o ys.size with h1 | h1
  ·exact h1
  ·rw [List.getD_eq_getElem?_getD (l := ys.toList), List.getElem?_eq_none (by simpa using h1)] at h
   simp [un2] at h
theorem flat_fields {d sz off : Nat} (ih : ∀ (t : TypeId) (o : Nat) (l : List (Nat × Nat)), flatOf P d t o = some l → EqAt P d t o l) :
  ∀ (fs : List Field) (l : List (Nat × Nat)), flatFields (flatOf P d) P sz off fs = some l → ∀ (d' : Nat) (xs ys : Array Value) (r : Bool) (w : World), eqL (itemsOf xs ys l) = some r →
  (forIn fs ((none, ()) : Option Bool × Unit) (fun f _ =>
   if f.name = "_" then pure (ForInStep.yield (none, ()))
   else do
    let a ← part f.type (xs.extract off (off + sz)) f.offset
    let b ← part f.type (ys.extract off (off + sz)) f.offset
    let c ← Op.equalIn (d' + d) f.type a b
    if c = false then pure (ForInStep.done (some false, ())) else pure (ForInStep.yield (none, ()))) : Sem (Option Bool × Unit)).run P w = .ok (if r then (none, ()) else (some false, ())) w := by
 intro fs
 induction fs with
 | nil =>
  intro l h d' xs ys r w he
  simp only [flatFields] at h
  cases h
  simp only [itemsOf, List.map_nil, eqL] at he
  cases he
  rfl
 | cons f fs ihl =>
  intro l h d' xs ys r w he
  simp only [flatFields] at h
  split at h
  ·rename_i s m hs hm
   split at h
   ·cases h
   ·rename_i hc
    split at h
    ·rename_i fl hfl
     cases h
     have hn : ¬ f.name = "_" := fun e => hc (.inl e)
     have h0 : s ≠ 0 := fun e => hc (.inr (.inl e))
     have hle : f.offset + s ≤ sz := by
      rcases Nat.lt_or_ge sz (f.offset + s) with q | q
      ·exact absurd (.inr (.inr (by omega))) hc
      ·exact q
     obtain ⟨b, hb, hbl⟩ := agg_of_flat hfl
     rw [itemsOf_append] at he
     have hfirst : ∃ q, eqL (itemsOf xs ys fl) = some q := by
      rcases eqL_append _ _ _ he with ⟨h1, _⟩ | ⟨h1, _⟩ <;> exact ⟨_, h1⟩
     obtain ⟨q, hq⟩ := hfirst
     have hin : b = false → off + f.offset < xs.size ∧ off + f.offset < ys.size := fun hbf => by
      obtain ⟨tag, rfl⟩ := hbl hbf
      exact in_of_eqT1 hq
     have hrun := ih f.type (off + f.offset) fl hfl d' xs ys q w hq
     rw [List.forIn_cons]
     simp only [if_neg hn, Sem.run_bind, run_part hs h0 hle b hb (fun e => (hin e).1), run_part hs h0 hle b hb (fun e => (hin e).2), Result.andThen_ok, hrun]
     rcases eqL_append _ _ _ he with ⟨h1, h2⟩ | ⟨h1, rfl⟩
     ·rw [hq] at h1; cases h1
      simpa using ihl m hm d' xs ys r w h2
     ·rw [hq] at h1; cases h1
      simp
    ·cases h
  ·cases h
theorem flat_arr {d s n sz off : Nat} {el : TypeId} (hs : szOf P el = some s) (h0 : s ≠ 0) (hn : n * s ≤ sz) (ih : ∀ (t : TypeId) (o : Nat) (l : List (Nat × Nat)), flatOf P d t o = some l → EqAt P d t o l) :
  ∀ (is : List Nat), (∀ i ∈ is, i < n) → ∀ (l : List (Nat × Nat)), flatArr (flatOf P d el) s off is = some l → ∀ (d' : Nat) (xs ys : Array Value) (r : Bool) (w : World), eqL (itemsOf xs ys l) = some r →
  (forIn is ((none, ()) : Option Bool × Unit) (fun i _ => do
    let a ← part el (xs.extract off (off + sz)) (i * s)
    let b ← part el (ys.extract off (off + sz)) (i * s)
    let c ← Op.equalIn (d' + d) el a b
    if c = false then pure (ForInStep.done (some false, ())) else pure (ForInStep.yield (none, ()))) : Sem (Option Bool × Unit)).run P w = .ok (if r then (none, ()) else (some false, ())) w := by
 intro is
 induction is with
 | nil =>
  intro _ l h d' xs ys r w he
  simp only [flatArr] at h
  cases h
  simp only [itemsOf, List.map_nil, eqL] at he
  cases he
  rfl
 | cons i is ihl =>
  intro hi l h d' xs ys r w he
  simp only [flatArr] at h
  split at h
  ·rename_i fl m hfl hm
   cases h
   have hlt := hi i (by simp)
   have hle : i * s + s ≤ sz := by
    have : (i + 1) * s ≤ n * s := Nat.mul_le_mul_right s hlt
    rw [Nat.add_mul] at this
    omega
   obtain ⟨b, hb, hbl⟩ := agg_of_flat hfl
   rw [itemsOf_append] at he
   have hfirst : ∃ q, eqL (itemsOf xs ys fl) = some q := by
    rcases eqL_append _ _ _ he with ⟨h1, _⟩ | ⟨h1, _⟩ <;> exact ⟨_, h1⟩
   obtain ⟨q, hq⟩ := hfirst
   have hin : b = false → off + i * s < xs.size ∧ off + i * s < ys.size := fun hbf => by
    obtain ⟨tag, rfl⟩ := hbl hbf
    exact in_of_eqT1 hq
   have hrun := ih el (off + i * s) fl hfl d' xs ys q w hq
   rw [List.forIn_cons]
   simp only [Sem.run_bind, run_part hs h0 hle b hb (fun e => (hin e).1), run_part hs h0 hle b hb (fun e => (hin e).2), Result.andThen_ok, hrun]
   rcases eqL_append _ _ _ he with ⟨h1, h2⟩ | ⟨h1, rfl⟩
   ·rw [hq] at h1; cases h1
    simpa using ihl (fun j hj => hi j (by simp [hj])) m hm d' xs ys r w h2
   ·rw [hq] at h1; cases h1
    simp
  ·cases h
theorem flat_eq : ∀ (d : Nat) (t : TypeId) (off : Nat) (l : List (Nat × Nat)), flatOf P d t off = some l → EqAt P d t off l := by
 intro d
 induction d with
 | zero => intro t off l h; cases h
 | succ d ih =>
  intro t off l h d' xs ys r w he
  have h' := h
  simp only [flatOf] at h
  rw [show d' + (d + 1) = (d' + d) + 1 by omega]
  split at h
  ·rename_i hu
   cases h
   have := eqL_one he
   simp only [partV, aggT, hu]
   unfold eqT1 at this
   split at this
   ·rename_i a b ha hb
    rw [ha, hb]
    injection this with this; subst this
    exact equalIn_bool hu w
   ·rename_i h1 _ _; cases h1
   ·rename_i h1 _ _; cases h1
   ·cases this
  ·rename_i k hu
   cases h
   have := eqL_one he
   simp only [partV, aggT, hu]
   unfold eqT1 at this
   split at this
   ·rename_i h1 _ _; cases h1
   ·rename_i k1 a k2 b _ ha hb
    rw [ha, hb]
    split at this
    ·rename_i hk
     subst hk
     injection this with this; subst this
     simp only [Op.equalIn, Sem.run_bind, run_und hu, Result.andThen_ok]
     simp
    ·cases this
   ·rename_i h1 _ _; cases h1
   ·cases this
  ·rename_i hu
   cases h
   have := eqL_one he
   simp only [partV, aggT, hu]
   unfold eqT1 at this
   split at this
   ·rename_i h1 _ _; cases h1
   ·rename_i h1 _ _; cases h1
   ·rename_i a b _ ha hb
    rw [ha, hb]
    injection this with this; subst this
    simp only [Op.equalIn, Sem.run_bind, run_und hu, Result.andThen_ok]
    simp [beq_bytes]
   ·cases this
  ·rename_i fs hu
   split at h
   ·cases h
   ·rename_i hst
    split at h
    ·rename_i sz hsz
     have hrun := flat_fields ih fs.toList l h d' xs ys r w he
     simp only [partV, aggT, hu, hsz]
     simp only [Op.equalIn, Sem.run_bind, run_und hu, Result.andThen_ok, run_program, hst]
     simp only [Bool.false_eq_true, if_false]
     rw [← Array.forIn_toList]
     simp only [ne_eq, ite_not, Bool.not_eq_eq_eq_not, Bool.not_true, Sem.run_bind]
     rw [hrun]
     cases r <;> rfl
    ·cases h
  ·rename_i m el hu
   split at h
   ·rename_i s sz hs hsz
    split at h
    ·rename_i hc
     have hrun := flat_arr hs hc.2 hc.1 ih (List.range' 0 m) (by simp) l h d' xs ys r w he
     simp only [partV, aggT, hu, hsz]
     simp only [Op.equalIn, Sem.run_bind, run_und hu, Result.andThen_ok, run_size hs]
     simp only [Std.Legacy.Range.forIn_eq_forIn_range', Std.Legacy.Range.size, Nat.sub_zero, Nat.add_sub_cancel, Nat.div_one, Bool.not_eq_eq_eq_not, Bool.not_true]
     rw [hrun]
     cases r <;> rfl
    ·cases h
   ·cases h
  ·cases h
theorem eqT1_same {t : Nat} {x y x' y' : Value} {r : Bool} (h : eqT1 t x y = some r) (hx : VR n ρ x x') (hy : VR n ρ y y') : eqT1 t x' y' = some r := by
 unfold eqT1 at h
 split at h
 ·rw [hx.inv_bool, hy.inv_bool]; exact h
 ·rw [hx.inv_int, hy.inv_int]; exact h
 ·rw [hx.inv_string, hy.inv_string]; exact h
 ·cases h
theorem VL.getD {xs ys : List Value} (h : VL n ρ xs ys) (i : Nat) : VR n ρ (xs.getD i undef) (ys.getD i undef) := by
 rw [List.getD_eq_getElem?_getD, List.getD_eq_getElem?_getD]
 rcases Nat.lt_or_ge i xs.length with hi | hi
 ·have hj : i < ys.length := by rw [← h.1]; exact hi
  rw [List.getElem?_eq_getElem hi, List.getElem?_eq_getElem hj]
  exact h.2 i _ _ (List.getElem?_eq_getElem hi) (List.getElem?_eq_getElem hj)
 ·rw [List.getElem?_eq_none hi, List.getElem?_eq_none (by rw [← h.1]; exact hi)]
  exact .undef
theorem eqL_same {xs ys xs' ys' : Array Value} (hx : VL n ρ xs.toList xs'.toList) (hy : VL n ρ ys.toList ys'.toList) : ∀ (l : List (Nat × Nat)) (r : Bool), eqL (itemsOf xs ys l) = some r → eqL (itemsOf xs' ys' l) = some r := by
 intro l
 induction l with
 | nil => intro r h; exact h
 | cons f l ih =>
  intro r h
  simp only [itemsOf, List.map_cons, eqL] at h ⊢
  split at h
  ·rename_i hq; rw [eqT1_same hq (hx.getD _) (hy.getD _)]; exact ih r h
  ·rename_i hq; rw [eqT1_same hq (hx.getD _) (hy.getD _)]; exact h
  ·cases h
theorem pure_eqs {op : BinOp} {t yt : TypeId} {l : List (Nat × Nat)} {sz : Nat} {x y : Operand} (hx : okO N G x = true) (hy : okO N G y = true) (hfl : fitsFlat P t = some l) (hsz : szOf P t = some sz)
  (hagg : aggT P t = some true) (hop : op = .eql ∨ op = .neq) : PureOK P N G n ρ ⟨dst, .binOp op t x y yt, ty, pos, after, guard⟩ (.eqs (isNeq op) sz l x y) := by
 intro e a H H' v hf h
 have h1 := hf.op hx
 have h2 := hf.op hy
 simp only [aop] at h
 split at h
 ·rename_i xs ys hxs hys
  split at h
  ·cases h
  ·rename_i hlen
   obtain ⟨h3, rfl⟩ := ofO_val h
   obtain ⟨b, hb, rfl⟩ := Option.map_eq_some_iff.1 h3
   rw [hxs] at h1; rw [hys] at h2
   obtain ⟨xs', hv1, hl1⟩ := h1.inv_agg
   obtain ⟨ys', hv2, hl2⟩ := h2.inv_agg
   refine ⟨rfl, _, .bool _, fun w => ?_⟩
   unfold fitsFlat at hfl
   split at hfl
   ·cases hfl
   ·rename_i hg
    have he := flat_eq (P := P) 12 t 0 l hfl 9988 xs' ys' b w (eqL_same hl1 hl2 l b hb)
    have s1 : xs'.size = sz := by have := hl1.1; simp only [Array.length_toList] at this hlen; omega
    have s2 : ys'.size = sz := by have := hl2.1; simp only [Array.length_toList] at this hlen; omega
    have p1 : partV P t xs' 0 = .agg xs' := by simp [partV, hagg, hsz, ← s1]
    have p2 : partV P t ys' 0 = .agg ys' := by simp [partV, hagg, hsz, ← s2]
    rw [p1, p2] at he
    have he' : (Op.equal t (.agg xs') (.agg ys')).run P w = .ok b w := he
    have hguard : (eqGuard op t x y (.agg xs') (.agg ys')).run P w = .ok () w := by
     rcases hop with rfl | rfl <;> simp [eqGuard, hg]
    simp only [execOp, Sem.run_bind, hv1, hv2, hguard, Result.andThen_ok]
    rcases hop with rfl | rfl <;> simp [binOp, he', isNeq]
 ·cases h
end
section
variable {P : Program} {N G n : Nat} {ρ : Nat → Place}
variable {dst : Option Nat} {ty : TypeId} {pos : String} {after : Array Edge} {guard : Option (Nat × Bool)}
theorem cell_of {w : World} {k o : Nat} {c : Array Value} {t : TypeId} {f : Nat × Nat} (h : w.heap[k]? = some (.cells c t f)) : w.cell? ⟨k, o, none⟩ = c[o]? := by
 simp [World.cell?, h]
theorem frozen_of {w : World} {k o : Nat} {c : Array Value} {t : TypeId} {f : Nat × Nat} (h : w.heap[k]? = some (.cells c t f)) : w.frozen? ⟨k, o, none⟩ = (decide (f.1 ≤ o) && decide (o < f.2)) := by
 obtain ⟨f1, f2⟩ := f
 simp [World.frozen?, h]
/-- A block's cells anew. -/
def setRow (w : World) (k : Nat) (c : Array Value) (t : TypeId) (f : Nat × Nat) : World := { w with heap := w.heap.setIfInBounds k (.cells c t f) }
theorem modify_eq {α : Type} (xs : Array α) (k : Nat) (g : α → α) (x : α) (h : xs[k]? = some x) : xs.modify k g = xs.setIfInBounds k (g x) := by
 apply Array.ext_getElem?
 intro i
 rw [Array.getElem?_modify, Array.getElem?_setIfInBounds]
 obtain ⟨hk, rfl⟩ := Array.getElem?_eq_some_iff.1 h
 split
 ·subst i; simp [hk]
 ·rfl
theorem setCell_row {w : World} {k o : Nat} {c : Array Value} {t : TypeId} {f : Nat × Nat} {v : Value} (h : w.heap[k]? = some (.cells c t f)) :
  w.setCell ⟨k, o, none⟩ v = setRow w k (c.setIfInBounds o v) t f := by
 unfold World.setCell setRow
 rw [modify_eq _ _ _ _ h]
 rfl
theorem setRow_at {w : World} {k : Nat} {c : Array Value} {t : TypeId} {f : Nat × Nat} (h : k < w.heap.size) : (setRow w k c t f).heap[k]? = some (.cells c t f) := by
 simp [setRow, h]
theorem setRow_ne {w : World} {k j : Nat} {c : Array Value} {t : TypeId} {f : Nat × Nat} (h : j ≠ k) : (setRow w k c t f).heap[j]? = w.heap[j]? := by
 simp [setRow, Array.getElem?_setIfInBounds_ne (Ne.symm h)]
theorem setRow_setRow (w : World) (k : Nat) (c d : Array Value) (t u : TypeId) (f g : Nat × Nat) : setRow (setRow w k c t f) k d u g = setRow w k d u g := by
 simp [setRow]
theorem setRow_self {w : World} {k : Nat} {c : Array Value} {t : TypeId} {f : Nat × Nat} (h : w.heap[k]? = some (.cells c t f)) : setRow w k c t f = w := by
 obtain ⟨hk, hx⟩ := Array.getElem?_eq_some_iff.1 h
 unfold setRow
 have : w.heap.setIfInBounds k (.cells c t f) = w.heap := by
  apply Array.ext_getElem?
  intro i
  rw [Array.getElem?_setIfInBounds]
  split
  ·subst i; rw [h]
  ·rfl
 rw [this]
theorem run_stores {k off : Nat} {t : TypeId} {f : Nat × Nat} : ∀ (vs : List Value) (i : Nat) (c : Array Value) (w : World), w.heap[k]? = some (.cells c t f) → (∀ v ∈ vs, v.oneCell' = true) →
  off + i + vs.length ≤ c.size → (∀ j, j < c.size → ¬ (f.1 ≤ j ∧ j < f.2)) → (storeCells ⟨k, off, none⟩ vs i).run P w = .ok () (setRow w k (setL c.toList (off + i) vs).toArray t f) := by
 intro vs
 induction vs with
 | nil => intro i c w h _ _ _; simp [storeCells, setL, setRow_self h]
 | cons v vs ih =>
  intro i c w h hv hl hf
  simp only [List.length_cons] at hl
  have hk : k < w.heap.size := (Array.getElem?_eq_some_iff.1 h).1
  have hin : off + i < c.size := by omega
  simp only [storeCells, Sem.run_bind, add_spot, setL]
  rw [run_store P w _ v _ (hv v (by simp)), cell_of h, Array.getElem?_eq_getElem hin]
  simp only [frozen_of h]
  rw [if_neg (by simpa using hf (off + i) hin)]
  simp only [Result.andThen_ok, setCell_row h]
  rw [ih (i + 1) (c.setIfInBounds (off + i) v) _ (setRow_at hk) (fun u hu => hv u (by simp [hu])) (by simp; omega) (by simpa using hf)]
  rw [setRow_setRow]
  simp [Nat.add_assoc]
theorem row_list {cs : List Value} {w : World} {b o m : Nat} {cells : Array Value} {t : TypeId} {fr : Nat × Nat} (hh : w.heap[(ρ b).blk]? = some (.cells cells t fr))
  (hc : ∀ (i : Nat) (v : Value), cs[i]? = some v → ∃ v', cells[(ρ b).off + i]? = some v' ∧ VR n ρ v v') (hm : o + m ≤ cs.length) :
  VL n ρ (cutCells cs o m) ((cells.toList.drop ((ρ b).off + o)).take m) ∧ ((cells.toList.drop ((ρ b).off + o)).take m).length = m ∧
  ∀ (P : Program) (w' : World), w'.heap = w.heap → (loadCells ⟨(ρ b).blk, (ρ b).off + o, none⟩ m).run P w' = .ok ((cells.toList.drop ((ρ b).off + o)).take m).toArray w' := by
 have hsz : ∀ i, i < cs.length → (ρ b).off + i < cells.size := fun i hi => by
  obtain ⟨v', hv, _⟩ := hc i _ (List.getElem?_eq_getElem hi)
  exact (Array.getElem?_eq_some_iff.1 hv).1
 have hlen : ((cells.toList.drop ((ρ b).off + o)).take m).length = m := by
  cases m with
  | zero => simp
  | succ m =>
   have := hsz (o + m) (by omega)
   simp
   omega
 refine ⟨⟨?_, fun i x y hx hy => ?_⟩, hlen, fun P w' hw' => ?_⟩
 ·rw [hlen]; simp [cutCells]; omega
 ·simp only [cutCells, List.getElem?_take, List.getElem?_drop] at hx hy
  split at hx
  ·rename_i hi
   rw [if_pos hi] at hy
   obtain ⟨v', hv, hr⟩ := hc _ _ hx
   have : cells.toList[(ρ b).off + o + i]? = some v' := by simpa [Nat.add_assoc] using hv
   rw [this] at hy; cases hy
   exact hr
  ·cases hx
 ·have := run_loadCells_list (P := P) w' ⟨(ρ b).blk, (ρ b).off + o, none⟩ ((cells.toList.drop ((ρ b).off + o)).take m) (fun j v hj => by
   rw [add_spot, cell_of (by rw [hw']; exact hh)]
   rw [List.getElem?_take] at hj
   split at hj
   ·rw [List.getElem?_drop] at hj; simpa using hj
   ·cases hj)
  rw [hlen] at this
  exact this
/-- What has to be shown of an operation on memory. -/
def HeapOK (P : Program) (N G : Nat) (o : Oper) (ao : AOp) : Prop :=
 ∀ (e : Env) (a : Act) (H : Heap) (ρ : Nat → Place) (w : World), Rel G ρ H w → Fits G N H.length ρ e a →
  (∀ v H', aop e H ao = .val v H' → ∃ ρ' v' w', (execOp a.eval o).run P w = .ok (.value v') w' ∧ Step G ρ H w ρ' H' w' ∧ VR H'.length ρ' v v') ∧
  (∀ H', aop e H ao = .skip H' → ∃ ρ' w', (execOp a.eval o).run P w = .ok .skip w' ∧ Step G ρ H w ρ' H' w') ∧
  (∀ f args, aop e H ao = .call f args → ∃ args', (execOp a.eval o).run P w = (callFunc f args').run P w ∧ VL H.length ρ args args'.toList) ∧
  (∀ v, aop e H ao = .pan v → ∃ v', (execOp a.eval o).run P w = .halt (.panic v') w ∧ VR H.length ρ v v')
/-- An operation that only ever answers a value. -/
theorem HeapOK.of_val {o : Oper} {ao : AOp} (hs : ∀ e H, (∃ v H', aop e H ao = .val v H') ∨ aop e H ao = .no)
  (h : ∀ (e : Env) (a : Act) (H : Heap) (ρ : Nat → Place) (w : World), Rel G ρ H w → Fits G N H.length ρ e a →
   ∀ v H', aop e H ao = .val v H' → ∃ ρ' v' w', (execOp a.eval o).run P w = .ok (.value v') w' ∧ Step G ρ H w ρ' H' w' ∧ VR H'.length ρ' v v') : HeapOK P N G o ao := by
 intro e a H ρ w hr hf
 refine ⟨h e a H ρ w hr hf, fun H' h' => ?_, fun f args h' => ?_, fun v h' => ?_⟩ <;>
  (rcases hs e H with ⟨v, H', hv⟩ | hv <;> rw [hv] at h' <;> cases h')
theorem HeapOK.of_pure {o : Oper} {ao : AOp} (hs : ∀ e H, (∃ v H', aop e H ao = .val v H') ∨ aop e H ao = .no) (h : ∀ n ρ, PureOK P N G n ρ o ao) : HeapOK P N G o ao := by
 refine HeapOK.of_val hs fun e a H ρ w hr hf v H' hv => ?_
 obtain ⟨rfl, v', hvr, hsay⟩ := h H.length ρ e a H H' v hf hv
 exact ⟨ρ, v', w, hsay w, Step.refl hr, hvr⟩
theorem heap_load1 {t : TypeId} {x : Operand} (hx : okO N G x = true) (ht : aggT P t = some false) : HeapOK P N G ⟨dst, .load t x, ty, pos, after, guard⟩ (.load1 x) := by
 refine HeapOK.of_val (fun e H => ?_) fun e a H ρ w hr hf v H' h => ?_
 ·simp only [aop]; (repeat' split) <;> first | exact .inr rfl | (unfold ofO; split <;> first | exact .inl ⟨_, _, rfl⟩ | exact .inr rfl)
 ·have h1 := hf.op hx
  simp only [aop] at h
  split at h
  ·rename_i b o hb
   rw [hb] at h1
   obtain ⟨hbn, hv⟩ := h1.inv_ptr
   split at h
   ·rename_i cs u wr hrow
    obtain ⟨h3, rfl⟩ := ofO_val h
    obtain ⟨cells, t', fr, hh, hc, _⟩ := hr.obj b _ (hget_some hrow rfl)
    obtain ⟨v', hv', hvr⟩ := hc o v h3
    refine ⟨ρ, v', w, ?_, Step.refl hr, hvr⟩
    simp [execOp, Instr.loadAt, hv, Instr.sureAddr, loadVar, run_agg ht, cell_of hh, hv']
   ·cases h
  ·cases h
theorem heap_loadN {t : TypeId} {m : Nat} {x : Operand} (hx : okO N G x = true) (ht : aggT P t = some true) (hs : szOf P t = some m) : HeapOK P N G ⟨dst, .load t x, ty, pos, after, guard⟩ (.loadN m x) := by
 refine HeapOK.of_val (fun e H => ?_) fun e a H ρ w hr hf v H' h => ?_
 ·simp only [aop]; (repeat' split) <;> first | exact .inr rfl | exact .inl ⟨_, _, rfl⟩
 ·have h1 := hf.op hx
  simp only [aop] at h
  split at h
  ·rename_i b o hb
   rw [hb] at h1
   obtain ⟨hbn, hv⟩ := h1.inv_ptr
   split at h
   ·rename_i cs u wr hrow
    split at h
    ·rename_i hle
     simp only [ARes.val.injEq] at h
     obtain ⟨rfl, rfl⟩ := h
     obtain ⟨cells, t', fr, hh, hc, _⟩ := hr.obj b _ (hget_some hrow rfl)
     obtain ⟨hvl, hlen, hrun⟩ := row_list hh hc hle
     refine ⟨ρ, _, w, ?_, Step.refl hr, hvl.agg⟩
     simp [execOp, Instr.loadAt, hv, Instr.sureAddr, loadVar, run_agg ht, run_size hs, hrun P w rfl]
    ·cases h
   ·cases h
  ·cases h
theorem setL_get (xs : List Value) : ∀ (us : List Value) (o i : Nat), (setL xs o us)[i]? = if o ≤ i ∧ i < o + us.length ∧ i < xs.length then us[i - o]? else xs[i]? := by
 intro us
 induction us generalizing xs with
 | nil => intro o i; simp [setL]; intro h1 h2; omega
 | cons u us ih =>
  intro o i
  simp only [setL, ih, List.length_set, List.length_cons]
  by_cases h1 : o + 1 ≤ i ∧ i < o + 1 + us.length ∧ i < xs.length
  ·rw [if_pos h1, if_pos (by omega)]
   obtain ⟨k, rfl⟩ : ∃ k, i = o + 1 + k := ⟨i - (o + 1), by omega⟩
   rw [show o + 1 + k - (o + 1) = k by omega, show o + 1 + k - o = k + 1 by omega]
   simp
  ·rw [if_neg h1, List.getElem?_set]
   by_cases h2 : o = i
   ·subst h2
    by_cases h3 : o < xs.length
    ·rw [if_pos rfl, if_pos h3, if_pos (by omega)]; simp
    ·rw [if_pos rfl, if_neg h3, if_neg (by omega)]; simp; omega
   ·rw [if_neg h2, if_neg (by omega)]
/-- A row written in its place. -/
theorem row_put {H : Heap} {w : World} {b o u : Nat} {cs new new' : List Value} (hr : Rel G ρ H w) (hb : H[b]? = some (.row cs u true)) (hn : VL H.length ρ new new') (ho : new.all oneCell = true)
  (hle : o + new.length ≤ cs.length) : ∃ w', (∀ P : Program, (storeCells ⟨(ρ b).blk, (ρ b).off + o, none⟩ new').run P w = .ok () w') ∧ Step G ρ H w ρ (H.set b (.row (setL cs o new) u true)) w' := by
 obtain ⟨cells, t, fr, hh, hc, hw⟩ := hr.obj b _ hb
 obtain ⟨hw1, hw2, hw3⟩ := hw rfl
 have hk : (ρ b).blk < w.heap.size := (Array.getElem?_eq_some_iff.1 hh).1
 have hone : ∀ v ∈ new', v.oneCell' = true := fun v hv => by
  obtain ⟨i, hi⟩ := List.getElem?_of_mem hv
  have hi' : i < new.length := by have := (List.getElem?_eq_some_iff.1 hi).1; rw [hn.1]; exact this
  have h1 := hn.2 i _ v (List.getElem?_eq_getElem hi') hi
  rw [h1.one]
  exact List.all_eq_true.1 ho _ (List.getElem_mem hi')
 have hl : new'.length = new.length := hn.1.symm
 refine ⟨_, fun P => run_stores new' 0 cells w hh hone (by rw [hl]; omega) hw2, ?_⟩
 refine Step.upd hr hb rfl rfl (by simp [setRow]) (fun c hc => setRow_ne hc) rfl rfl rfl (fun r h => by rw [hh] at h; cases h) ?_
 refine ⟨_, t, fr, setRow_at hk, fun i v hv => ?_, fun _ => ⟨?_, ?_, hw3⟩⟩
 ·simp only [List.getElem?_toArray, setL_get, Array.length_toList] at hv ⊢
  by_cases hin : o ≤ i ∧ i < o + new.length ∧ i < cs.length
  ·rw [if_pos hin] at hv
   rw [if_pos (by rw [hl]; omega)]
   obtain ⟨y, hy, hvr⟩ := hn.get hv
   exact ⟨y, by rw [show (ρ b).off + i - ((ρ b).off + o + 0) = i - o by omega]; exact hy, hvr⟩
  ·rw [if_neg hin] at hv
   obtain ⟨v', hv', hvr⟩ := hc i v hv
   have hi : i < cs.length := (List.getElem?_eq_some_iff.1 hv).1
   rw [if_neg (by rw [hl]; omega)]
   exact ⟨v', by simpa using hv', hvr⟩
 ·simp only [List.size_toArray, setL_length]; simpa using hw1
 ·simpa [setL_length] using hw2
theorem heap_store {t : TypeId} {m : Nat} {x y : Operand} (hx : okO N G x = true) (hy : okO N G y = true) (hs : szOf P t = some m) : HeapOK P N G ⟨dst, .store t x y, ty, pos, after, guard⟩ (.store m x y) := by
 intro e a H ρ w hr hf
 have h1 := hf.op hx
 have h2 := (hf.op hy).cells
 refine ⟨fun v H' h => ?_, fun H' h => ?_, fun f args h => ?_, fun v h => ?_⟩
 ·simp only [aop] at h; (repeat' split at h) <;> cases h
 ·simp only [aop] at h
  split at h
  ·rename_i b o hb
   rw [hb] at h1
   obtain ⟨hbn, hv⟩ := h1.inv_ptr
   split at h
   ·rename_i cs u hrow
    split at h
    ·rename_i hc
     cases h
     obtain ⟨w', hrun, hstep⟩ := row_put hr (hget_some hrow rfl) h2 hc.2.2 (by rw [hc.1]; exact hc.2.1)
     refine ⟨ρ, w', ?_, hstep⟩
     have hl : (a.eval y).cells.size = m := by have := h2.1; simp only [Array.length_toList] at this; omega
     simp only [execOp, Instr.storeAt, hv, Instr.sureAddr, storeVar, Sem.run_bind, Sem.run_pure, Result.andThen_ok, run_size hs]
     rw [if_neg (by simp [hl])]
     simp [hrun]
    ·cases h
   ·cases h
  ·cases h
 ·simp only [aop] at h; (repeat' split at h) <;> cases h
 ·simp only [aop] at h; (repeat' split at h) <;> cases h
end
section
variable {P : Program} {N G n : Nat} {ρ : Nat → Place}
variable {dst : Option Nat} {ty : TypeId} {pos : String} {after : Array Edge} {guard : Option (Nat × Bool)}
theorem Rel.congr {H : Heap} {w w' : World} (h : Rel G ρ H w) (hh : w'.heap = w.heap) : Rel G ρ H w' := by
 refine ⟨fun b o hb => ?_, h.inj, h.glob, h.many⟩
 exact (h.obj b o hb).mono (Nat.le_refl _) rfl (fun _ _ => rfl) (fun _ => by rw [hh])
/-- A world in which nothing but the count of draws is another. -/
theorem Step.drawn {H : Heap} {w w' : World} (h : Rel G ρ H w) (hh : w'.heap = w.heap) (h1 : w'.os = w.os) (h2 : w'.tape = w.tape) (h3 : w'.output = w.output) : Step G ρ H w ρ H w' :=
 ⟨h.congr hh, Nat.le_refl _, fun _ _ => rfl, h1, h2, h3, by rw [hh]; exact Nat.le_refl _, fun c _ _ => by rw [hh], fun c hc => .inl hc, fun c r hc => ⟨r, by rw [hh]; exact hc⟩, fun c u h hl => .inl ⟨u, h, hl⟩⟩
theorem Step.kill {H : Heap} {w : World} (hr : Rel G ρ H w) (b : Nat) : Step G ρ H w ρ (H.set b .dead) w := by
 have cases_ : ∀ c u, (H.set b .dead)[c]? = some u → u = AObj.dead ∨ H[c]? = some u := fun c u h => by
  rw [List.getElem?_set] at h
  split at h
  ·split at h
   ·cases h; exact .inl rfl
   ·cases h
  ·exact .inr h
 refine ⟨⟨fun c u hu => ?_, fun c d u v hu hv hne hw hl => ?_, hr.glob, by simpa using hr.many⟩, by simp, fun _ _ => rfl, rfl, rfl, rfl, Nat.le_refl _, fun _ _ _ => rfl, fun c hc => ?_, fun _ r h => ⟨r, h⟩, fun c u hu hl => (cases_ c u hu).elim (fun e => (by subst e; cases hl)) fun h => .inl ⟨u, h, hl⟩⟩
 ·rw [List.length_set]
  rcases cases_ c u hu with rfl | h
  ·trivial
  ·exact hr.obj c u h
 ·rcases cases_ c u hu with rfl | h1
  ·cases hw
  ·rcases cases_ d v hv with rfl | h2
   ·cases hl
   ·exact hr.inj c d u v h1 h2 hne hw hl
 ·obtain ⟨d, u, hu, hw, rfl⟩ := hc
  rcases cases_ d u hu with rfl | h1
  ·cases hw
  ·exact .inl ⟨d, u, h1, hw, rfl⟩
/-- A new block that takes over the memory of one that is given up. -/
theorem Step.take {H : Heap} {w w' : World} {b : Nat} {o x : AObj} (hr : Rel G ρ H w) (hb : H[b]? = some o) (hw : o.wrt = true) (p : Place) (hp : p.blk = (ρ b).blk)
  (hs : w'.heap.size = w.heap.size) (hh : ∀ c, c ≠ (ρ b).blk → w'.heap[c]? = w.heap[c]?) (h1 : w'.os = w.os) (h2 : w'.tape = w.tape) (h3 : w'.output = w.output)
  (hlp : ∀ r : Loop, w.heap[(ρ b).blk]? = some (Obj.loop r) → ∃ r', w'.heap[(ρ b).blk]? = some (Obj.loop r'))
  (ho : OR (H.length + 1) (ext ρ H.length p) w' H.length x) : Step G ρ H w (ext ρ H.length p) (H.set b .dead ++ [x]) w' := by
 have hlt : b < H.length := (List.getElem?_eq_some_iff.1 hb).1
 have cases_ : ∀ c u, (H.set b .dead ++ [x])[c]? = some u → u = AObj.dead ∨ (c < H.length ∧ c ≠ b ∧ H[c]? = some u) ∨ (c = H.length ∧ u = x) := fun c u h => by
  by_cases hc : c < H.length
  ·rw [List.getElem?_append_left (by simpa using hc), List.getElem?_set] at h
   split at h
   ·(try rw [if_pos hlt] at h)
    cases h; exact .inl rfl
   ·rename_i hne
    exact .inr (.inl ⟨hc, fun e => hne e.symm, h⟩)
  ·rw [List.getElem?_append_right (by simpa using hc)] at h
   obtain ⟨q1, q2⟩ := List.getElem?_eq_some_iff.1 h
   simp at q1
   have : c = H.length := by omega
   subst this
   simp at q2
   exact .inr (.inr ⟨rfl, q2.symm⟩)
 refine ⟨⟨fun c u hu => ?_, fun c d u v hu hv hne hwr hl => ?_, fun g hg => ?_, by simp; have := hr.many; omega⟩, by simp, fun c hc => ext_lt hc, h1, h2, h3, by omega, fun c hc hn => ?_, fun c hc => ?_, fun c r hc => ?_, fun c u hu hl => ?_⟩
 ·rw [show (H.set b .dead ++ [x]).length = H.length + 1 by simp]
  rcases cases_ c u hu with rfl | ⟨hc, hcb, hu2⟩ | ⟨rfl, rfl⟩
  ·trivial
  ·exact (hr.obj c u hu2).mono (by omega) (ext_lt hc) (fun d hd => ext_lt hd) (fun hl => hh _ (fun e => hr.inj b c o u hb hu2 (fun e => hcb e.symm) hw hl e.symm))
  ·exact ho
 ·rcases cases_ c u hu with rfl | ⟨hc, hcb, hu2⟩ | ⟨rfl, rfl⟩
  ·cases hwr
  ·rcases cases_ d v hv with rfl | ⟨hd, hdb, hv2⟩ | ⟨rfl, rfl⟩
   ·cases hl
   ·rw [ext_lt hc, ext_lt hd]; exact hr.inj c d u v hu2 hv2 hne hwr hl
   ·rw [ext_lt hc, ext_same, hp]; exact hr.inj c b u o hu2 hb hcb hwr (live_of_wrt hw)
  ·rcases cases_ d v hv with rfl | ⟨hd, hdb, hv2⟩ | ⟨rfl, rfl⟩
   ·cases hl
   ·rw [ext_lt hd, ext_same, hp]; exact hr.inj b d o v hb hv2 (fun e => hdb e.symm) hw hl
   ·exact absurd rfl hne
 ·rw [ext_lt (Nat.lt_of_lt_of_le hg hr.many)]; exact hr.glob g hg
 ·exact hh c (fun e => hn ⟨b, o, hb, hw, e.symm⟩)
 ·obtain ⟨d, u, hu, hwr, rfl⟩ := hc
  rcases cases_ d u hu with rfl | ⟨hd, hdb, hu2⟩ | ⟨rfl, rfl⟩
  ·cases hwr
  ·rw [ext_lt hd]; exact .inl ⟨d, u, hu2, hwr, rfl⟩
  ·rw [ext_same, hp]; exact .inl ⟨b, o, hb, hw, rfl⟩
 ·by_cases he : c = (ρ b).blk
  ·subst he; exact hlp r hc
  ·exact ⟨r, by rw [hh c he]; exact hc⟩
 ·rcases cases_ c u hu with rfl | ⟨hc, hcb, hu2⟩ | ⟨rfl, rfl⟩
  ·cases hl
  ·exact .inl ⟨u, hu2, hl⟩
  ·rw [ext_same, hp]; exact .inr (.inl ⟨b, o, hb, hw, rfl⟩)
/-- A new row. -/
theorem new_row {H : Heap} {w : World} (hr : Rel G ρ H w) (cs : List Value) (arr : Array Value) (t : TypeId) (fr : Nat × Nat) (u e : Nat) (hv : VL H.length ρ cs (arr.toList.take cs.length))
  (hs : cs.length + e * u ≤ arr.size) (hf : ∀ i, i < arr.size → ¬ (fr.1 ≤ i ∧ i < fr.2)) (hu : u = 0 → fr = (0, 0)) :
  Step G ρ H w (ext ρ H.length ⟨w.heap.size, 0, e⟩) (H ++ [.row cs u true]) { w with heap := w.heap.push (.cells arr t fr) } := by
 refine Step.new hr _ _ e ?_
 refine ⟨arr, t, fr, by simp [ext_same], fun i v hi => ?_, fun _ => ⟨by simpa [ext_same] using hs, hf, hu⟩⟩
 obtain ⟨v', hv', hvr⟩ := hv.get hi
 refine ⟨v', ?_, hvr.mono (by omega) (fun b hb => ext_lt hb)⟩
 rw [List.getElem?_take] at hv'
 split at hv'
 ·simpa [ext_same] using hv'
 ·cases hv'
theorem ptr_new {H : Heap} {x : AObj} (k e : Nat) : VR (H ++ [x]).length (ext ρ H.length ⟨k, 0, e⟩) (.pointer (some ⟨H.length, 0, none⟩)) (.pointer (some ⟨k, 0, none⟩)) := by
 have := VR.ptr (n := (H ++ [x]).length) (ρ := ext ρ H.length ⟨k, 0, e⟩) H.length 0 (by simp)
 simpa [ext_same] using this
theorem sl_new {H : Heap} {x : AObj} (k e l c : Nat) (h : l ≤ c) : VR (H ++ [x]).length (ext ρ H.length ⟨k, 0, e⟩) (.slice (some ⟨H.length, 0, none⟩) l c) (.slice (some ⟨k, 0, none⟩) l (c + e)) := by
 have := VR.sl (n := (H ++ [x]).length) (ρ := ext ρ H.length ⟨k, 0, e⟩) H.length 0 l c (c + e) (by simp) h (by omega) (by simp [ext_same])
 simpa [ext_same] using this
theorem heap_alloc {t : TypeId} {z : List Value} (hz : zeroOf P t = some z) : HeapOK P N G ⟨dst, .alloc t, ty, pos, after, guard⟩ (.alloc z) := by
 refine HeapOK.of_val (fun e H => .inl ⟨_, _, rfl⟩) fun e a H ρ w hr hf v H' h => ?_
 simp only [aop, ARes.val.injEq] at h
 obtain ⟨rfl, rfl⟩ := h
 obtain ⟨zv, hrun, hzc, _, _⟩ := run_zero hz
 refine ⟨_, .pointer (some ⟨w.heap.size, 0, none⟩), _, ?_, new_row hr z zv.cells t (0, 0) 0 0 ?_ ?_ (by simp) (by simp), ptr_new _ _⟩
 ·simp [execOp, Instr.alloc, hrun, newVar, newRow]
 ·rw [hzc]; simpa using VL.closed (zero_closed hz)
 ·have : z.length = zv.cells.size := by rw [← hzc]; simp
  omega
theorem heap_box {t : TypeId} {x : Operand} (hx : okO N G x = true) : HeapOK P N G ⟨dst, .box t x, ty, pos, after, guard⟩ (.box x) := by
 refine HeapOK.of_val (fun e H => .inl ⟨_, _, rfl⟩) fun e a H ρ w hr hf v H' h => ?_
 simp only [aop, ARes.val.injEq] at h
 obtain ⟨rfl, rfl⟩ := h
 have h1 := (hf.op hx).cells
 have hl : (cellsOf (aev e x)).length = (a.eval x).cells.size := by have := h1.1; simpa using this
 refine ⟨_, .pointer (some ⟨w.heap.size, 0, none⟩), _, ?_, new_row hr _ (a.eval x).cells t (0, 0) 0 0 ?_ (by omega) (by simp) (by simp), ptr_new _ _⟩
 ·simp [execOp, Instr.box, newVar, newRow]
 ·rw [hl, ← Array.length_toList, List.take_length]; exact h1
theorem flatten_get (z : List Value) : ∀ (c i : Nat), i < c * z.length → ((List.replicate c z).flatten)[i]? = z[i % z.length]? := by
 intro c
 induction c with
 | zero => intro i h; simp at h
 | succ c ih =>
  intro i h
  rw [List.replicate_succ, List.flatten_cons]
  by_cases hi : i < z.length
  ·rw [List.getElem?_append_left hi, Nat.mod_eq_of_lt hi]
  ·rw [List.getElem?_append_right (by omega), ih (i - z.length) (by rw [Nat.add_mul] at h; omega)]
   rw [Nat.mod_eq_sub_mod (a := i) (by omega)]
theorem zeros_eq (z : Array Value) (c s : Nat) (hs : z.size = s) (h0 : 0 < s) : ((Array.range (c * s)).map (fun i => z[i % z.size]!)).toList = (List.replicate c z.toList).flatten := by
 apply List.ext_getElem?
 intro i
 by_cases hi : i < c * s
 ·rw [flatten_get _ _ _ (by simpa [hs] using hi)]
  have hm : i % s < z.size := by rw [hs]; exact Nat.mod_lt _ h0
  rw [List.getElem?_eq_getElem (l := z.toList) (by simpa [hs] using hm)]
  simp [hi, hs, getElem!_pos z (i % s) hm]
 ·rw [List.getElem?_eq_none (by simp; omega), List.getElem?_eq_none (by simp [hs]; omega)]
theorem heap_buildSlice {t el : TypeId} {s len : Nat} {z cells : List Value} {parts : Array (Nat × Operand)} {ps : List (Nat × Nat × Operand)} (hu : P.underlying t = some (.slice el)) (hs : szOf P el = some s) (hz : zeroOf P el = some z)
  (h0 : 0 < s) (hlen : len * s ≤ 65536) (hzl : len = 0 ∨ z.length = s) (hc : cells = (List.replicate len z).flatten) (hp : partsOf P N G (fun i => some (i * s, s)) parts.toList = some ps) :
  HeapOK P N G ⟨dst, .buildSlice t len parts, ty, pos, after, guard⟩ (.buildSlice s len cells ps) := by
 refine HeapOK.of_val (fun e H => ?_) fun e a H ρ w hr hf v H' h => ?_
 ·simp only [aop]; (repeat' split) <;> first | exact .inr rfl | exact .inl ⟨_, _, rfl⟩
 ·simp only [aop] at h
  split at h
  ·rename_i cs hcs
   simp only [ARes.val.injEq] at h
   obtain ⟨rfl, rfl⟩ := h
   obtain ⟨zv, hrun, hzc, _, _⟩ := run_zero hz
   have hzrl : ((Array.range (len * s)).map (fun i => (if len = 0 then #[] else zv.cells)[i % (if len = 0 then #[] else zv.cells).size]!)).toList = cells := by
    by_cases hl : len = 0
    ·subst hl; simp [hc]
    ·have hsz : zv.cells.size = s := by rw [← Array.length_toList, hzc]; exact hzl.resolve_left hl
     rw [if_neg hl, zeros_eq _ _ _ hsz h0, hzc, hc]
   have hcl : ∀ x ∈ cells, closedV x = true := fun x hx => by
    rw [hc] at hx
    obtain ⟨l, hl, hxl⟩ := List.mem_flatten.1 hx
    rw [(List.mem_replicate.1 hl).2] at hxl
    exact zero_closed hz x hxl
   obtain ⟨out, hout, hvl⟩ := fill_sound (cs' := (Array.range (len * s)).map (fun i => (if len = 0 then #[] else zv.cells)[i % (if len = 0 then #[] else zv.cells).size]!)) parts.toList hp hf.er hf.many hf.glob (by rw [hzrl]; exact VL.closed hcl) hcs
   have hol : cs.length = out.size := by have := hvl.1; simpa using this
   refine ⟨_, .slice (some ⟨w.heap.size, 0, none⟩) len (len + 0), _, ?_, new_row hr cs out el (0, 0) s 0 ?_ (by omega) (by simp) (fun h => by omega), sl_new _ _ _ _ (Nat.le_refl _)⟩
   ·simp only [execOp, Instr.buildSlice, Sem.run_bind, run_und hu, Result.andThen_ok, run_size hs]
    rw [if_neg (by omega)]
    rw [show (Array.map (fun x => match x with | (i, x) => (i, a.eval x)) parts).toList = parts.toList.map fun p => (p.1, a.eval p.2) by simp]
    by_cases hl : len = 0
    ·subst hl
     simp only [Nat.zero_mul, if_true, Sem.run_bind, Sem.run_pure, Result.andThen_ok] at hout ⊢
     rw [hout]
     simp [newRow]
    ·rw [if_neg (by have := Nat.mul_pos (Nat.pos_of_ne_zero hl) h0; omega)]
     simp only [if_neg hl, Sem.run_bind, hrun, Sem.run_pure, Result.andThen_ok] at hout ⊢
     rw [hout]
     simp [newRow]
   ·rw [hol, ← Array.length_toList, List.take_length]; exact hvl
  ·cases h
theorem wrap_i64 {j : Int} (h0 : 0 ≤ j) (h1 : j < 9223372036854775808) : IntKind.i64.wrap j = j := by
 have e : IntKind.i64.wrap j = (if (decide (j % 18446744073709551616 ≥ 9223372036854775808)) = true then j % 18446744073709551616 - 18446744073709551616 else j % 18446744073709551616) := rfl
 rw [e, Int.emod_eq_of_lt h0 (by omega)]
 rw [if_neg (by simp; omega)]
theorem heap_mkSlice {t el : TypeId} {s b : Nat} {z : List Value} {l c : Operand} (hl : okO N G l = true) (hc : okO N G c = true) (hu : P.underlying t = some (.slice el)) (hs : szOf P el = some s) (hb : bytesOfT P el = some b) (hz : zeroOf P el = some z)
  (h0 : 0 < s) (hzl : z.length = s) : HeapOK P N G ⟨dst, .makeSlice t l c, ty, pos, after, guard⟩ (.mkSlice s b z l c) := by
 refine HeapOK.of_val (fun e H => ?_) fun e a H ρ w hr hf v H' h => ?_
 ·simp only [aop]; (repeat' split) <;> first | exact .inr rfl | exact .inl ⟨_, _, rfl⟩
 ·have h1 := hf.op hl
  have h2 := hf.op hc
  simp only [aop] at h
  split at h
  ·rename_i k i k' j hi hj
   rw [hi] at h1; rw [hj] at h2
   split at h
   ·rename_i hcond
    obtain ⟨c1, c2, c3, c4⟩ := hcond
    simp only [ARes.val.injEq] at h
    obtain ⟨rfl, rfl⟩ := h
    obtain ⟨zv, hrun, hzc, _, _⟩ := run_zero hz
    obtain ⟨inf, hinf, hib, hirun⟩ := run_bytes (w := w) hb
    obtain ⟨inf', hinf', hib', hirun'⟩ := run_bytes (w := w) hb
    have hsz : zv.cells.size = s := by rw [← Array.length_toList, hzc]; exact hzl
    have hj0 : 0 ≤ j := by omega
    have hjw : IntKind.i64.wrap j = j := by
     simp only [roomMax] at c4
     exact wrap_i64 (by omega) (by omega)
    have hiw : IntKind.i64.wrap i = i := by
     simp only [roomMax] at c4
     exact wrap_i64 (by omega) (by omega)
    have hbj : (b : Int) * j ≤ 140737488355328 := by
     have e1 : ((j.toNat * b : Nat) : Int) ≤ 140737488355328 := by simp only [roomMax] at c3; omega
     have e2 : ((j.toNat * b : Nat) : Int) = b * j := by
      rw [Int.natCast_mul, Int.toNat_of_nonneg hj0, Int.mul_comm]
     omega
    have hlist : ((Array.range (j.toNat * s)).map (fun i => (if j.toNat * s = 0 then #[] else zv.cells)[i % (if j.toNat * s = 0 then #[] else zv.cells).size]!)).toList = (List.replicate j.toNat z).flatten := by
     by_cases hz0 : j.toNat * s = 0
     ·have : j.toNat = 0 := by
       rcases Nat.mul_eq_zero.1 hz0 with h | h
       ·exact h
       ·omega
      simp [this]
     ·rw [if_neg hz0, zeros_eq _ _ _ hsz h0, hzc]
    refine ⟨_, .slice (some ⟨w.heap.size, 0, none⟩) i.toNat (j.toNat + 0), _, ?_, new_row hr _ ((Array.range (j.toNat * s)).map (fun i => (if j.toNat * s = 0 then #[] else zv.cells)[i % (if j.toNat * s = 0 then #[] else zv.cells).size]!)) el (0, 0) s 0 ?_ ?_ (by simp) (fun h => by omega), sl_new _ _ _ _ (by omega)⟩
    ·simp only [execOp, Instr.makeSlice, Sem.run_bind, run_und hu, Result.andThen_ok, h1.inv_int, h2.inv_int, asInt, asIntOf, Sem.run_pure, hirun, hjw, hiw, hib]
     rw [if_neg (by simp; omega)]
     simp only [Sem.run_bind, Result.andThen_ok, run_askRoom, run_size hs]
     by_cases hz0 : j.toNat * s = 0
     ·simp only [if_pos hz0, Sem.run_bind, Sem.run_pure, Result.andThen_ok]
      simp [newRow]
     ·simp only [if_neg hz0, Sem.run_bind, hrun, Sem.run_pure, Result.andThen_ok]
      simp [newRow]
    ·rw [hlist, List.take_length]
     exact VL.closed fun x hx => by
      obtain ⟨q, hq, hxq⟩ := List.mem_flatten.1 hx
      rw [(List.mem_replicate.1 hq).2] at hxq
      exact zero_closed hz x hxq
    ·rw [← hlist]; simp
   ·cases h
  ·cases h
end
section
variable {P : Program} {N G n : Nat} {ρ : Nat → Place}
variable {dst : Option Nat} {ty : TypeId} {pos : String} {after : Array Edge} {guard : Option (Nat × Bool)}
theorem src_sound {H : Heap} {w : World} {u m : Nat} {x x' : Value} {new : List Value} (hr : Rel G ρ H w) (hx : VR H.length ρ x x') (h : srcCells H u m x = some new) :
  ∃ new', VL H.length ρ new new' ∧ ∀ (P : Program) (w' : World), w'.heap = w.heap → (Builtin.firstCells u m x').run P w' = .ok new'.toArray w' := by
 unfold srcCells at h
 split at h
 ·rename_i b o l c
  rcases hx.inv_slice with ⟨h3, _⟩ | ⟨b', o', c', h3, hbn, hc0, hc1, hc2, hv⟩ | ⟨b', o', k', a', c', h3, _⟩
  ·cases h3
  ·cases h3
   split at h
   ·rename_i cs u' wr hrow
    split at h
    ·rename_i hle
     cases h
     obtain ⟨cells, t', fr, hh, hc, _⟩ := hr.obj b _ (hget_some hrow rfl)
     obtain ⟨hvl, hlen, hrun⟩ := row_list hh hc hle
     exact ⟨_, hvl, fun P w' hw' => by rw [hv]; exact hrun P w' hw'⟩
    ·cases h
   ·cases h
  ·cases h3
 ·split at h
  ·rename_i hm
   cases h
   rcases hx.inv_slice with ⟨_, _, _, hv⟩ | ⟨b', o', c', h3, _⟩ | ⟨b', o', k', a', c', h3, _⟩
   ·exact ⟨[], VL.nil, fun P w' _ => by rw [hv]; rfl⟩
   ·cases h3
   ·cases h3
  ·cases h
 ·split at h
  ·rename_i hm
   cases h
   subst hm
   rcases hx.inv_slice with ⟨h3, _⟩ | ⟨b', o', c', h3, _⟩ | ⟨b', o', k', a', c', h3, _, _, hv⟩
   ·cases h3
   ·cases h3
   ·exact ⟨[], VL.nil, fun P w' _ => by rw [hv]; simp [Builtin.firstCells, loadCells, loadCellsFrom]⟩
  ·cases h
 ·rename_i s
  split at h
  ·rename_i hm
   cases h
   refine ⟨_, VL.map _ _ _ fun x _ => .int _ _, fun P w' _ => ?_⟩
   rw [hx.inv_string]
   simp only [Builtin.firstCells, Sem.run_pure]
   congr 1
   apply Array.ext'
   simp [List.extract_eq_take_drop, List.map_take]
  ·cases h
 ·cases h
theorem len_sound {w : World} {x x' : Value} {m : Nat} (hx : VR n ρ x x') (h : lenV x = some m) : (Builtin.lenOf x').run P w = .ok m w := by
 unfold lenV at h
 split at h
 ·cases h
  rcases hx.inv_slice with ⟨_, h3, _, h2⟩ | ⟨b, o, c', _, _, _, _, _, h2⟩ | ⟨b, o, k, a', c', _, h3, _, h2⟩ <;> rw [h2] <;> (try rw [h3]) <;> rfl
 ·cases h; rw [hx.inv_string]; rfl
 ·cases h
theorem take_flat {cs ys : List Value} (h : VL n ρ cs ys) (zs : List Value) : VL n ρ cs ((ys ++ zs).take cs.length) := by
 rw [h.1, List.take_left]; exact h
theorem next_cap (need cap : Nat) (h : cap < need) : Builtin.nextslicecap need cap ≤ 2 * need := by
 have grow : ∀ (r c : Nat), 256 ≤ c → c ≤ 2 * need → Builtin.growBy need r c ≤ 2 * need := by
  intro r
  induction r with
  | zero => intro c _ h2; simpa [Builtin.growBy] using h2
  | succ r ih =>
   intro c hc h2
   simp only [Builtin.growBy]
   split
   ·exact h2
   ·exact ih (c + (c + 768) / 4) (by omega) (by omega)
 unfold Builtin.nextslicecap
 split
 ·omega
 ·split
  ·omega
  ·exact grow 4 cap (by omega) (by omega)
/-- The model's append where there is no room. -/
theorem run_grow {sType xType el : TypeId} {u b m l cap need : Nat} {base : Option Addr} {x : Value} {old new : List Value} {z : List Value} {w : World} {argTypes : Array TypeId} {d : TypeDesc}
  (h0 : argTypes[0]? = some sType) (h1 : argTypes[1]? = some xType) (hu : P.underlying sType = some (.slice el)) (hx : P.underlying xType = some d) (hd : ∀ k, d ≠ .int k) (hs : szOf P el = some u) (hb : bytesOfT P el = some b) (hz : zeroOf P el = some z)
  (hb0 : b ≠ 0) (hlen : (Builtin.lenOf x).run P w = .ok m w) (hneed : need = l + m) (hcap : cap < need) (hroom : need * b ≤ roomMax)
  (hold : ∀ w' : World, w'.heap = w.heap → (Builtin.firstCells u l (.slice base l cap)).run P w' = .ok old.toArray w') (hnew : ∀ w' : World, w'.heap = w.heap → (Builtin.firstCells u m x).run P w' = .ok new.toArray w') :
  ∃ q, (Builtin.append_ argTypes ty #[.slice base l cap, x]).run P w = .ok (.slice (some ⟨w.heap.size, 0, none⟩) need (need + q))
   { w with heap := w.heap.push (.cells ((old ++ new).toArray ++ Builtin.zeroCells z.toArray q) el (0, 0)), drawn := w.drawn + 1 } := by
 obtain ⟨zv, hzr, hzc, _, _⟩ := run_zero hz
 have hzv : zv.cells = z.toArray := by rw [← hzc]
 obtain ⟨inf, hinf, hib, _⟩ := run_bytes (w := w) hb
 let tape := w.tape w.drawn (.appendCap need cap el)
 refine ⟨tape % (2 ^ 63 - need), ?_⟩
 have e0 : (#[Value.slice base l cap, x] : Array Value)[0]? = some (.slice base l cap) := rfl
 have e1 : (#[Value.slice base l cap, x] : Array Value)[1]? = some x := rfl
 have hbn : ¬ (Builtin.nextslicecap need cap * b > 2 ^ 48) := by
  have h2 := next_cap need cap hcap
  have h3 : Builtin.nextslicecap need cap * b ≤ 2 * need * b := Nat.mul_le_mul_right b h2
  rw [Nat.mul_assoc] at h3
  simp only [roomMax] at hroom
  omega
 unfold Builtin.append_
 simp only [h0, h1, e0, e1, Sem.run_bind, run_und hu, run_und hx, Result.andThen_ok, run_size hs, Sem.run_pure]
 simp only [Bool.false_eq_true, if_false, Sem.run_bind, hlen, Result.andThen_ok]
 rw [if_neg (by omega)]
 simp only [Sem.run_bind, run_info hinf, Result.andThen_ok, hib, false_or, hb0, and_false, if_false]
 rw [← hneed, if_neg hbn]
 simp only [Sem.run_bind, run_choose, Question.forced, Bool.false_eq_true, if_false, Result.andThen_ok, run_info hinf, run_askRoom, Question.cut]
 rw [hold { w with drawn := w.drawn + 1 } rfl]
 simp only [Result.andThen_ok, Bool.not_false, if_true]
 rw [hnew { w with drawn := w.drawn + 1 } rfl]
 simp only [Result.andThen_ok, hzr, newRow, Sem.run_bind, run_newObj, Sem.run_pure, hzv, Nat.add_sub_cancel_left]
 simp [tape]
theorem run_room {sType xType el : TypeId} {u m l cap : Nat} {base : Option Addr} {x : Value} {new : List Value} {w w' : World} {argTypes : Array TypeId} {d : TypeDesc}
  (h0 : argTypes[0]? = some sType) (h1 : argTypes[1]? = some xType) (hu : P.underlying sType = some (.slice el)) (hx : P.underlying xType = some d) (hd : ∀ k, d ≠ .int k) (hs : szOf P el = some u)
  (hlen : (Builtin.lenOf x).run P w = .ok m w) (hcap : l + m ≤ cap) (hnew : (Builtin.firstCells u m x).run P w = .ok new.toArray w)
  (hst : (match base with | some a => storeCells (a.add (l * u)) new | none => pure () : Sem Unit).run P w = .ok () w') :
  (Builtin.append_ argTypes ty #[.slice base l cap, x]).run P w = .ok (.slice base (l + m) cap) w' := by
 have e0 : (#[Value.slice base l cap, x] : Array Value)[0]? = some (.slice base l cap) := rfl
 have e1 : (#[Value.slice base l cap, x] : Array Value)[1]? = some x := rfl
 unfold Builtin.append_
 simp only [h0, h1, e0, e1, Sem.run_bind, run_und hu, run_und hx, Result.andThen_ok, run_size hs, Sem.run_pure]
 simp only [Bool.false_eq_true, if_false, Sem.run_bind, hlen, Result.andThen_ok]
 rw [if_pos hcap]
 simp only [Sem.run_bind, Bool.not_false, if_true, hnew, Result.andThen_ok]
 cases base with
 | none => cases hst; rfl
 | some a => simp only [Sem.run_bind, hst, Result.andThen_ok]; rfl
theorem args_two {a : Act} {c : Call} {x y : Operand} (ha : c.args.toList = [x, y]) : c.args.map a.eval = #[a.eval x, a.eval y] := by
 have : c.args = #[x, y] := by rw [← Array.toArray_toList (xs := c.args), ha]
 simp [this]
theorem run_append {a : Act} {c : Call} {x y : Operand} {v : Value} {w w' : World} (hc : c.callee = .builtin .append) (ha : c.args.toList = [x, y])
  (h : (Builtin.append_ c.argTypes ty #[a.eval x, a.eval y]).run P w = .ok v w') : (execOp a.eval ⟨dst, .call c, ty, pos, after, guard⟩).run P w = .ok (.value v) w' := by
 simp only [execOp, resolve, hc, Sem.run_bind, Sem.run_pure, Result.andThen_ok, invoke, builtin, args_two ha, h]
theorem Step.newDrawn {H : Heap} {w : World} {ρ' : Nat → Place} {H' : Heap} {o : Obj} (h : Step G ρ H w ρ' H' { w with heap := w.heap.push o }) : Step G ρ H w ρ' H' { w with heap := w.heap.push o, drawn := w.drawn + 1 } :=
 h.trans (Step.drawn h.rel rfl rfl rfl rfl)
theorem zeroCells_size (z : Array Value) (q : Nat) : (Builtin.zeroCells z q).size = q * z.size := by simp [Builtin.zeroCells]
theorem grown_row {H : Heap} {w : World} (hr : Rel G ρ H w) {cs ys : List Value} (h : VL H.length ρ cs ys) (z : List Value) (el : TypeId) (u q : Nat) (hz : z.length = u) (hu : u ≠ 0) :
  Step G ρ H w (ext ρ H.length ⟨w.heap.size, 0, q⟩) (H ++ [.row cs u true]) { w with heap := w.heap.push (.cells (ys.toArray ++ Builtin.zeroCells z.toArray q) el (0, 0)), drawn := w.drawn + 1 } := by
 refine Step.newDrawn (new_row hr cs _ el (0, 0) u q ?_ ?_ (by simp) (fun e => absurd e hu))
 ·rw [Array.toList_append]
  exact take_flat h _
 ·simp [zeroCells_size, hz, h.1]
theorem heap_append {sType xType el : TypeId} {d : TypeDesc} {u b : Nat} {z : List Value} {c : Call} {x y : Operand} (hc : c.callee = .builtin .append) (ha : c.args.toList = [x, y])
  (hx : okO N G x = true) (hy : okO N G y = true) (h0 : c.argTypes[0]? = some sType) (h1 : c.argTypes[1]? = some xType) (hu : P.underlying sType = some (.slice el)) (hxt : P.underlying xType = some d)
  (hd : ∀ k, d ≠ .int k) (hs : szOf P el = some u) (hb : bytesOfT P el = some b) (hz : zeroOf P el = some z) (hu0 : u ≠ 0) (hb0 : b ≠ 0) (hzl : z.length = u) :
  HeapOK P N G ⟨dst, .call c, ty, pos, after, guard⟩ (.append u b x y) := by
 refine HeapOK.of_val (fun e H => ?_) fun e a H ρ w hr hf v H' h => ?_
 ·simp only [aop, appendV]; (repeat' split) <;> first | exact .inr rfl | exact .inl ⟨_, _, rfl⟩
 ·have v1 := hf.op hx
  have v2 := hf.op hy
  simp only [aop, appendV] at h
  split at h
  ·cases h
  ·rename_i m hm
   have hlen := fun w' : World => len_sound (P := P) (w := w') v2 hm
   split at h
   ·-- a nil list
    rename_i new hnew hnil
    obtain ⟨new', hvl, hrun⟩ := src_sound hr v2 hnew
    rw [hnil] at v1
    have e1 : a.eval x = .slice none 0 0 := by
     rcases v1.inv_slice with ⟨_, _, _, hv⟩ | ⟨b', o', c', h3, _⟩ | ⟨b', o', k', a', c', h3, _⟩
     ·exact hv
     ·cases h3
     ·cases h3
    split at h
    ·rename_i hm0
     subst hm0
     simp only [ARes.val.injEq] at h
     obtain ⟨rfl, rfl⟩ := h
     refine ⟨ρ, .slice none 0 0, w, run_append hc ha ?_, Step.refl hr, .slNil⟩
     rw [e1]
     exact run_room (new := new') h0 h1 hu hxt hd hs (hlen w) (by omega) (hrun P w rfl) rfl
    ·rename_i hm0
     split at h
     ·rename_i hroom
      simp only [ARes.val.injEq] at h
      obtain ⟨rfl, rfl⟩ := h
      obtain ⟨q, hq⟩ := run_grow (ty := ty) (old := []) (new := new') (base := none) (cap := 0) (l := 0) (need := m) h0 h1 hu hxt hd hs hb hz hb0 (hlen w) (by omega) (by omega) hroom.1
       (fun w' _ => rfl) (fun w' hw' => hrun P w' hw')
      exact ⟨_, _, _, run_append hc ha (by rw [e1]; exact hq), grown_row hr hvl z el u q hzl hu0, sl_new _ _ _ _ (Nat.le_refl _)⟩
     ·cases h
   ·-- a list
    rename_i new bb o l cp hnew hsl
    obtain ⟨new', hvl, hrun⟩ := src_sound hr v2 hnew
    have v1' := v1
    rw [hsl] at v1'
    obtain ⟨hbn, hc0, c', hc1, hc2, e1⟩ : bb < H.length ∧ l ≤ cp ∧ ∃ c', cp ≤ c' ∧ c' ≤ cp + (ρ bb).ext ∧ a.eval x = .slice (some ⟨(ρ bb).blk, (ρ bb).off + o, none⟩) l c' := by
     rcases v1'.inv_slice with ⟨h3, _⟩ | ⟨b', o', c', h3, q1, q2, q3, q4, q5⟩ | ⟨b', o', k', a', c', h3, _⟩
     ·cases h3
     ·cases h3; exact ⟨q1, q2, c', q3, q4, q5⟩
     ·cases h3
    split at h
    ·rename_i hm0
     subst hm0
     simp only [ARes.val.injEq] at h
     obtain ⟨rfl, rfl⟩ := h
     refine ⟨ρ, a.eval x, w, run_append hc ha ?_, Step.refl hr, v1⟩
     rw [e1]
     have hn0 : new' = [] := by
      have : new = [] := by
       unfold srcCells at hnew
       split at hnew
       ·split at hnew
        ·split at hnew
         ·cases hnew; simp
         ·cases hnew
        ·cases hnew
       ·split at hnew
        ·cases hnew; rfl
        ·cases hnew
       ·split at hnew
        ·cases hnew; rfl
        ·cases hnew
       ·split at hnew
        ·cases hnew; simp
        ·cases hnew
       ·cases hnew
      subst this
      exact List.eq_nil_of_length_eq_zero hvl.1.symm
     subst hn0
     have := run_room (P := P) (ty := ty) (base := some ⟨(ρ bb).blk, (ρ bb).off + o, none⟩) (l := l) (cap := c') (x := a.eval y) (new := []) h0 h1 hu hxt hd hs (hlen w) (by omega) (hrun P w rfl) rfl
     simpa using this
    ·rename_i hm0
     split at h
     ·rename_i cs u' hrow
      have hb' := hget_some hrow rfl
      split at h
      ·rename_i hcond
       obtain ⟨rfl, hlc, hcap, hnl⟩ := hcond
       split at h
       ·-- room that we know of
        rename_i hroom
        split at h
        ·rename_i hone
         simp only [ARes.val.injEq] at h
         obtain ⟨rfl, rfl⟩ := h
         have hle : o + l * u' + new.length ≤ cs.length := by
          have : (l + m) * u' ≤ cp * u' := Nat.mul_le_mul_right u' hroom
          rw [Nat.add_mul] at this
          omega
         obtain ⟨w', hst, hstep⟩ := row_put hr hb' hvl hone hle
         refine ⟨ρ, .slice (some ⟨(ρ bb).blk, (ρ bb).off + o, none⟩) (l + m) c', w', run_append hc ha ?_, hstep, ?_⟩
         ·rw [e1]
          refine run_room (new := new') h0 h1 hu hxt hd hs (hlen w) (by omega) (hrun P w rfl) ?_
          simp only [add_spot]
          rw [Nat.add_assoc]
          exact hst P
         ·exact .sl _ _ _ _ _ (by simpa using hbn) (by omega) hc1 hc2
        ·cases h
       ·rename_i hroom
        split at h
        ·rename_i hcond2
         obtain ⟨hr1, hr2, hone⟩ := hcond2
         simp only [ARes.val.injEq] at h
         obtain ⟨rfl, rfl⟩ := h
         obtain ⟨cells, t', fr, hh, hcc, hw0⟩ := hr.obj bb _ hb'
         obtain ⟨hw1, hw2, hw3⟩ := hw0 rfl
         have hlcap : l * u' ≤ cp * u' := Nat.mul_le_mul_right u' hlc
         obtain ⟨hvo, hlo, hrold⟩ := row_list (m := l * u') hh hcc (show o + l * u' ≤ cs.length by omega)
         by_cases hreal : l + m ≤ c'
         ·-- room that we don't know of: the memory is taken over
          have hk : (ρ bb).blk < w.heap.size := (Array.getElem?_eq_some_iff.1 hh).1
          have hone' : ∀ v ∈ new', v.oneCell' = true := fun v hv => by
           obtain ⟨i, hi⟩ := List.getElem?_of_mem hv
           have hi' : i < new.length := by have := (List.getElem?_eq_some_iff.1 hi).1; rw [hvl.1]; exact this
           rw [(hvl.2 i _ v (List.getElem?_eq_getElem hi') hi).one]
           exact List.all_eq_true.1 hone _ (List.getElem_mem hi')
          have hnl' : new'.length = m * u' := by rw [← hvl.1]; exact hnl
          have hmul : (l + m) * u' ≤ c' * u' := Nat.mul_le_mul_right u' hreal
          have hmul2 : c' * u' ≤ cp * u' + (ρ bb).ext * u' := by rw [← Nat.add_mul]; exact Nat.mul_le_mul_right u' hc2
          have hsz : (ρ bb).off + (o + l * u') + 0 + new'.length ≤ cells.size := by rw [Nat.add_mul] at hmul; omega
          have hst := run_stores (P := P) (off := (ρ bb).off + (o + l * u')) new' 0 cells w hh hone' hsz hw2
          refine ⟨ext ρ H.length ⟨(ρ bb).blk, (ρ bb).off + o, c' - (l + m)⟩, .slice (some ⟨(ρ bb).blk, (ρ bb).off + o, none⟩) (l + m) c', setRow w (ρ bb).blk (setL cells.toList ((ρ bb).off + (o + l * u') + 0) new').toArray t' fr, run_append hc ha ?_, ?_, ?_⟩
          ·rw [e1]
           refine run_room (new := new') h0 h1 hu hxt hd hs (hlen w) hreal (hrun P w rfl) ?_
           simp only [add_spot]
           rw [Nat.add_assoc]
           exact hst
          ·refine Step.take hr hb' rfl _ rfl (by simp [setRow]) (fun c hc => setRow_ne hc) rfl rfl rfl (fun r h => by obtain ⟨_, _, _, h9, _⟩ := hr.obj _ _ hb'; rw [h9] at h; cases h) ?_
           refine ⟨_, t', fr, by rw [ext_same]; exact setRow_at hk, fun i v hv => ?_, fun _ => ⟨?_, ?_, hw3⟩⟩
           ·rw [ext_same]
            simp only [List.getElem?_toArray, setL_get, Array.length_toList]
            have up : ∀ {v v' : Value}, VR H.length ρ v v' → VR (H.length + 1) (ext ρ H.length ⟨(ρ bb).blk, (ρ bb).off + o, c' - (l + m)⟩) v v' := fun h => h.mono (by omega) (fun b hb => ext_lt hb)
            by_cases hi : i < l * u'
            ·rw [List.getElem?_append_left (by simp; omega)] at hv
             rw [if_neg (by omega)]
             rw [List.getElem?_take, if_pos hi, List.getElem?_drop] at hv
             obtain ⟨v', hv', hvr⟩ := hcc _ _ hv
             exact ⟨v', by simpa [Nat.add_assoc] using hv', up hvr⟩
            ·have hdl : ((cs.drop o).take (l * u')).length = l * u' := by simp; omega
             rw [List.getElem?_append_right (by omega), hdl] at hv
             obtain ⟨v', hv', hvr⟩ := hvl.get hv
             have hi2 : i - l * u' < new.length := (List.getElem?_eq_some_iff.1 hv).1
             rw [if_pos (by omega)]
             exact ⟨v', by rw [show (ρ bb).off + o + i - ((ρ bb).off + (o + l * u') + 0) = i - l * u' by omega]; exact hv', up hvr⟩
           ·rw [ext_same]
            simp only [List.size_toArray, setL_length, Array.length_toList, List.length_append, List.length_take, List.length_drop]
            have : (c' - (l + m)) * u' = c' * u' - (l + m) * u' := Nat.sub_mul _ _ _
            rw [this, hnl]
            rw [Nat.add_mul] at *
            omega
           ·simpa [setL_length] using hw2
          ·have := VR.sl (n := (H.set bb .dead ++ [AObj.row ((cs.drop o).take (l * u') ++ new) u' true]).length) (ρ := ext ρ H.length ⟨(ρ bb).blk, (ρ bb).off + o, c' - (l + m)⟩) H.length 0 (l + m) (l + m) c' (by simp) (Nat.le_refl _) hreal (by simp [ext_same]; omega)
           simpa [ext_same] using this
         ·-- no room
          obtain ⟨q, hq⟩ := run_grow (P := P) (ty := ty) (old := (cells.toList.drop ((ρ bb).off + o)).take (l * u')) (new := new') (base := some ⟨(ρ bb).blk, (ρ bb).off + o, none⟩) (cap := c') (l := l) (need := l + m)
           h0 h1 hu hxt hd hs hb hz hb0 (hlen w) rfl (by omega) hr1 (fun w' hw' => hrold P w' hw') (fun w' hw' => hrun P w' hw')
          have hkill := Step.kill hr bb
          have hvall : VL (H.set bb .dead).length ρ ((cs.drop o).take (l * u') ++ new) ((cells.toList.drop ((ρ bb).off + o)).take (l * u') ++ new') := by
           rw [List.length_set]; exact hvo.append hvl
          have hgrow := grown_row hkill.rel hvall z el u' q hzl hu0
          refine ⟨_, _, _, run_append hc ha (by rw [e1]; exact hq), hkill.trans hgrow, ?_⟩
          have := sl_new (H := H.set bb .dead) (ρ := ρ) (x := AObj.row ((cs.drop o).take (l * u') ++ new) u' true) w.heap.size q (l + m) (l + m) (Nat.le_refl _)
          simpa using this
        ·cases h
      ·cases h
     ·cases h
   ·cases h
end
section
variable {P : Program} {N G n : Nat} {ρ : Nat → Place}
variable {dst : Option Nat} {ty : TypeId} {pos : String} {after : Array Edge} {guard : Option (Nat × Bool)}
theorem heap_s2b {s d el : TypeId} {x : Operand} (hx : okO N G x = true) (hs : P.underlying s = some .string) (hd : P.underlying d = some (.slice el)) (hel : P.underlying el = some (.int .u8)) :
  HeapOK P N G ⟨dst, .convert s d x, ty, pos, after, guard⟩ (.s2b x) := by
 refine HeapOK.of_val (fun e H => ?_) fun e a H ρ w hr hf v H' h => ?_
 ·simp only [aop]; (repeat' split) <;> first | exact .inr rfl | exact .inl ⟨_, _, rfl⟩
 ·have h1 := hf.op hx
  simp only [aop] at h
  split at h
  ·rename_i str hstr
   simp only [ARes.val.injEq] at h
   obtain ⟨rfl, rfl⟩ := h
   rw [hstr] at h1
   let q := w.tape w.drawn (.appendCap str.size 0 el) % (2 ^ 63 - str.size)
   let arr : Array Value := str.data.map (fun b => Value.int .u8 b.toNat) ++ Array.replicate q (.int .u8 0)
   have hstep : Step G ρ H w (ext ρ H.length ⟨w.heap.size, 0, q⟩) (H ++ [.row (str.data.toList.map fun b => .int .u8 b.toNat) 1 true]) { w with heap := w.heap.push (.cells arr el (arr.size, arr.size + 1)) } := by
    refine new_row hr _ arr el _ 1 q ?_ ?_ (fun i hi => by simp; omega) (by simp)
    ·simp only [arr, Array.toList_append, Array.toList_map]
     exact take_flat (VL.map _ _ _ fun x _ => .int _ _) _
    ·simp [arr]
   refine ⟨_, .slice (some ⟨w.heap.size, 0, none⟩) str.size (str.size + q), _, ?_, Step.newDrawn hstep, sl_new _ _ _ _ (Nat.le_refl _)⟩
   simp only [execOp, Sem.run_bind, convert, run_und hs, run_und hd, run_und hel, Result.andThen_ok, h1.inv_string, Conv.stringToBytes, run_choose, Question.forced, Bool.false_eq_true, if_false, Question.cut, newRow, run_newObj, Sem.run_pure, markStringish, run_shape]
   have hshape : ∀ (os : Array Obj) (a : Array Value) (t : TypeId), ({ heap := os.push (.cells a t), tape := w.tape, drawn := w.drawn + 1, os := w.os, output := w.output } : World).shape? os.size = some (t, a.size) := fun os a t => by
    simp [World.shape?]
   rw [hshape]
   simp only [run_freeze, Result.andThen_ok]
   have hfr : ∀ (a : Array Value), ({ heap := w.heap.push (.cells a el), tape := w.tape, drawn := w.drawn + 1, os := w.os, output := w.output } : World).freeze ⟨w.heap.size, a.size, none⟩ 1 =
     { heap := w.heap.push (.cells a el (a.size, a.size + 1)), tape := w.tape, drawn := w.drawn + 1, os := w.os, output := w.output } := fun a => by
    unfold World.freeze
    rw [if_neg (by simp)]
    simp only [World.mk.injEq, and_true]
    rw [modify_eq _ _ _ (.cells a el (0, 0)) (by simp)]
    apply Array.ext_getElem?
    intro i
    rw [Array.getElem?_setIfInBounds]
    by_cases hi : w.heap.size = i
    ·subst hi; simp
    ·rw [if_neg hi, Array.getElem?_push, Array.getElem?_push, if_neg (fun e => hi e.symm), if_neg (fun e => hi e.symm)]
   rw [hfr]
   simp [arr, q]
  ·cases h
theorem bytes_same : ∀ {xs ys : List Value} {l : List UInt8}, VL n ρ xs ys → bytesOf xs = some l → bytesOf ys = some l := by
 intro xs
 induction xs with
 | nil => intro ys l h hb; have : ys = [] := List.eq_nil_of_length_eq_zero h.1.symm; subst this; exact hb
 | cons x xs ih =>
  intro ys l h hb
  cases ys with
  | nil => have := h.1; simp at this
  | cons y ys =>
   unfold bytesOf at hb
   split at hb
   ·rename_i h1; cases h1
   ·rename_i m l' h1
    cases h1
    obtain ⟨r, hr, rfl⟩ := Option.map_eq_some_iff.1 hb
    rw [h.head.inv_int]
    simp [bytesOf, ih h.tail hr]
   ·cases hb
theorem run_bytes2 {w : World} {body : Value → ByteArray → Sem (ForInStep ByteArray)} (hbody : ∀ (n : Int) (s : ByteArray) (w : World), (body (.int .u8 n) s).run P w = .ok (.yield (s.push (UInt8.ofNat n.toNat))) w) :
  ∀ (ys : List Value) (l : List UInt8) (s : ByteArray), bytesOf ys = some l → (forIn ys s body : Sem ByteArray).run P w = .ok ⟨s.data ++ l.toArray⟩ w := by
 intro ys
 induction ys with
 | nil => intro l s h; simp only [bytesOf] at h; cases h; simp
 | cons y ys ih =>
  intro l s h
  unfold bytesOf at h
  split at h
  ·rename_i h1; cases h1
  ·rename_i m l' h1
   cases h1
   obtain ⟨r, hr, rfl⟩ := Option.map_eq_some_iff.1 h
   rw [List.forIn_cons]
   simp only [Sem.run_bind, hbody, Result.andThen_ok]
   rw [ih r _ hr]
   simp [ByteArray.push]
  ·cases h
theorem heap_b2s {s d el : TypeId} {x : Operand} (hx : okO N G x = true) (hs : P.underlying s = some (.slice el)) (hd : P.underlying d = some .string) (hel : P.underlying el = some (.int .u8)) :
  HeapOK P N G ⟨dst, .convert s d x, ty, pos, after, guard⟩ (.b2s x) := by
 refine HeapOK.of_val (fun e H => ?_) fun e a H ρ w hr hf v H' h => ?_
 ·simp only [aop]; (repeat' split) <;> first | exact .inr rfl | exact .inl ⟨_, _, rfl⟩
 ·have h1 := hf.op hx
  simp only [aop] at h
  split at h
  ·cases h
  ·rename_i m hm
   split at h
   ·rename_i ad l c hsl
    split at h
    ·rename_i l' hl
     simp only [ARes.val.injEq] at h
     obtain ⟨rfl, rfl⟩ := h
     obtain ⟨cs, hcs, hb⟩ := Option.bind_eq_some_iff.1 hl
     obtain ⟨new', hvl, hrun⟩ := src_sound hr h1 hcs
     have hb' := bytes_same hvl hb
     rw [hsl] at h1 hm
     simp only [lenV] at hm
     cases hm
     refine ⟨ρ, .string ⟨l'.toArray⟩, w, ?_, Step.refl hr, .string _⟩
     have hr2 := hrun P w rfl
     simp only [execOp, Sem.run_bind, convert, run_und hs, run_und hd, Result.andThen_ok]
     rcases h1.inv_slice with ⟨rfl, rfl, rfl, hv⟩ | ⟨b, o, c', rfl, hbn, hc0, hc1, hc2, hv⟩ | ⟨b, o, k, a', c', rfl, rfl, rfl, hv⟩
     ·rw [hv] at hr2 ⊢
      simp only [Builtin.firstCells, Sem.run_pure] at hr2
      injection hr2 with hr2
      have : new' = [] := by simpa using hr2.symm
      subst this
      simp only [bytesOf] at hb'
      cases hb'
      simp only [Sem.run_bind, run_und hel, Result.andThen_ok, Conv.bytesToString, Sem.run_pure]
      rfl
     ·rw [hv] at hr2 ⊢
      simp only [Builtin.firstCells, Nat.mul_one] at hr2
      simp only [Sem.run_bind, run_und hel, Conv.bytesToString, hr2, Result.andThen_ok, List.forIn_toArray]
      rw [run_bytes2 (fun n s w => rfl) new' l' _ hb']
      simp [ByteArray.empty, ByteArray.emptyWithCapacity]
      try rfl
     ·rw [hv] at hr2 ⊢
      simp only [Builtin.firstCells, Nat.mul_one] at hr2
      simp only [Sem.run_bind, run_und hel, Conv.bytesToString, hr2, Result.andThen_ok, List.forIn_toArray]
      rw [run_bytes2 (fun n s w => rfl) new' l' _ hb']
      simp [ByteArray.empty, ByteArray.emptyWithCapacity]
      try rfl
    ·cases h
   ·cases h
theorem heap_rng {t : TypeId} {x : Operand} (hx : okO N G x = true) (ht : P.underlying t = some .string) : HeapOK P N G ⟨dst, .range t x, ty, pos, after, guard⟩ (.rng x) := by
 refine HeapOK.of_val (fun e H => ?_) fun e a H ρ w hr hf v H' h => ?_
 ·simp only [aop]; (repeat' split) <;> first | exact .inr rfl | exact .inl ⟨_, _, rfl⟩
 ·have h1 := hf.op hx
  simp only [aop] at h
  split at h
  ·rename_i s hs
   simp only [ARes.val.injEq] at h
   obtain ⟨rfl, rfl⟩ := h
   rw [hs] at h1
   refine ⟨_, .pointer (some ⟨w.heap.size, 0, none⟩), _, ?_, Step.new hr (.stringIter s 0) (.iter s 0) 0 ⟨by simp [ext_same], by simp [ext_same]⟩, ptr_new _ _⟩
   simp [execOp, Instr.range, run_und ht, h1.inv_string]
  ·cases h
theorem heap_nxt {x : Operand} (hx : okO N G x = true) : HeapOK P N G ⟨dst, .next x true, ty, pos, after, guard⟩ (.nxt x) := by
 refine HeapOK.of_val (fun e H => ?_) fun e a H ρ w hr hf v H' h => ?_
 ·simp only [aop]; (repeat' split) <;> first | exact .inr rfl | exact .inl ⟨_, _, rfl⟩
 ·have h1 := hf.op hx
  simp only [aop] at h
  split at h
  ·rename_i b hb
   rw [hb] at h1
   obtain ⟨hbn, hv⟩ := h1.inv_ptr
   split at h
   ·rename_i s p hit
    have hb' := hget_some hit rfl
    obtain ⟨hh, hoff⟩ := hr.obj b _ hb'
    have hk : (ρ b).blk < w.heap.size := (Array.getElem?_eq_some_iff.1 hh).1
    have hgo : ∀ w : World, w.heap[(ρ b).blk]? = some (.stringIter s p) → (getObj (ρ b).blk).run P w = .ok (.stringIter s p) w := fun w h => by simp [getObj, Sem.run, h]
    rw [hoff] at hv
    split at h
    ·rename_i hp
     simp only [ARes.val.injEq] at h
     obtain ⟨rfl, rfl⟩ := h
     refine ⟨ρ, _, { w with heap := w.heap.setIfInBounds (ρ b).blk (.stringIter s (p + (Utf8.decode s p).2)) }, ?_, Step.upd hr hb' rfl rfl (by simp) (fun c hc => by simp [Array.getElem?_setIfInBounds_ne (Ne.symm hc)]) rfl rfl rfl (fun r h => by rw [hh] at h; cases h) ⟨by simp [hk], hoff⟩,
      VL.tuple (xs := [.bool true, .int .i64 p, .int .i32 (Utf8.decode s p).1]) (ys := [.bool true, .int .i64 p, .int .i32 (Utf8.decode s p).1]) (VL.cons (.bool _) (VL.cons (.int _ _) (VL.cons (.int _ _) VL.nil)))⟩
     simp only [execOp, hv, Instr.next, Sem.run_bind, hgo w hh, Result.andThen_ok, if_pos hp]
     simp [setObj, Sem.run, hh, goInt]
    ·rename_i hp
     simp only [ARes.val.injEq] at h
     obtain ⟨rfl, rfl⟩ := h
     refine ⟨ρ, _, w, ?_, Step.refl hr, VL.tuple (xs := [.bool false]) (ys := [.bool false]) (VL.cons (.bool _) VL.nil)⟩
     simp only [execOp, hv, Instr.next, Sem.run_bind, hgo w hh, Result.andThen_ok, if_neg hp]
     rfl
   ·cases h
  ·cases h
theorem heap_copy {dType el : TypeId} {u : Nat} {c : Call} {x y : Operand} (hc : c.callee = .builtin .copy) (ha : c.args.toList = [x, y]) (hx : okO N G x = true) (hy : okO N G y = true)
  (h0 : c.argTypes[0]? = some dType) (hu : P.underlying dType = some (.slice el)) (hs : szOf P el = some u) : HeapOK P N G ⟨dst, .call c, ty, pos, after, guard⟩ (.copy u x y) := by
 refine HeapOK.of_val (fun e H => ?_) fun e a H ρ w hr hf v H' h => ?_
 ·simp only [aop]; (repeat' split) <;> first | exact .inr rfl | exact .inl ⟨_, _, rfl⟩
 ·have v1 := hf.op hx
  have v2 := hf.op hy
  have e0 : ∀ p q : Value, (#[p, q] : Array Value)[0]? = some p := fun _ _ => rfl
  have e1 : ∀ p q : Value, (#[p, q] : Array Value)[1]? = some q := fun _ _ => rfl
  simp only [aop] at h
  split at h
  ·rename_i b o dl dc m hd hm
   have hlen := len_sound (P := P) (w := w) v2 hm
   rw [hd] at v1
   split at h
   ·rename_i cs u' hrow
    split at h
    ·rename_i new hnew
     split at h
     ·rename_i hcond
      simp only [ARes.val.injEq] at h
      obtain ⟨rfl, rfl⟩ := h
      obtain ⟨new', hvl, hrun⟩ := src_sound hr v2 hnew
      obtain ⟨w', hst, hstep⟩ := row_put hr (hget_some hrow rfl) hvl hcond.1 hcond.2
      rcases v1.inv_slice with ⟨h3, _⟩ | ⟨b', o', c', h3, q1, q2, q3, q4, q5⟩ | ⟨b', o', k', a', c', h3, _⟩
      ·cases h3
      ·cases h3
       refine ⟨ρ, .int .i64 (min m dl : Nat), w', ?_, hstep, .int _ _⟩
       simp only [execOp, resolve, hc, Sem.run_bind, Sem.run_pure, Result.andThen_ok, invoke, builtin, args_two ha, Builtin.copy_, h0, e0, e1, run_und hu, q5, hlen, run_size hs]
       have hr2 := hrun P w rfl
       have : Nat.min m dl = min m dl := rfl
       rw [this, hr2]
       simp [hst, goInt]
      ·cases h3
     ·cases h
    ·cases h
   ·cases h
  ·rename_i m hd hm
   have hlen := len_sound (P := P) (w := w) v2 hm
   simp only [ARes.val.injEq] at h
   obtain ⟨rfl, rfl⟩ := h
   rw [hd] at v1
   have hz : (Builtin.firstCells u 0 (a.eval y)).run P w = .ok #[] w := by
    unfold lenV at hm
    split at hm
    ·rename_i hsl
     rw [hsl] at v2
     rcases v2.inv_slice with ⟨_, _, _, h2⟩ | ⟨b, o, c', _, _, _, _, _, h2⟩ | ⟨b, o, k, a', c', _, _, _, h2⟩ <;> rw [h2] <;> simp [Builtin.firstCells, loadCells, loadCellsFrom]
    ·rename_i hst
     rw [hst] at v2
     rw [v2.inv_string]
     simp [Builtin.firstCells]
    ·cases hm
   rcases v1.inv_slice with ⟨_, _, _, hv⟩ | ⟨b', o', c', h3, _⟩ | ⟨b', o', k', a', c', h3, _⟩
   ·refine ⟨ρ, .int .i64 0, w, ?_, Step.refl hr, .int _ _⟩
    simp only [execOp, resolve, hc, Sem.run_bind, Sem.run_pure, Result.andThen_ok, invoke, builtin, args_two ha, Builtin.copy_, h0, e0, e1, run_und hu, hv, hlen, run_size hs]
    have : Nat.min m 0 = 0 := Nat.min_zero m
    rw [this, hz]
    simp [goInt]
   ·cases h3
   ·cases h3
  ·cases h
theorem heap_callv {c : Call} {f : Operand} (hc : c.callee = .value f) (hf0 : okO N G f = true) (hx : c.args.toList.all (okO N G) = true) : HeapOK P N G ⟨dst, .call c, ty, pos, after, guard⟩ (.callv f c.args.toList) := by
 intro e a H ρ w hr hf
 have h1 := hf.op hf0
 have h2 := vl_ops hf _ hx
 refine ⟨fun v H' h => ?_, fun H' h => ?_, fun g args h => ?_, fun v h => ?_⟩
 ·simp only [aop] at h; split at h <;> cases h
 ·simp only [aop] at h; split at h <;> cases h
 ·simp only [aop] at h
  split at h
  ·rename_i g' first captured hfv
   cases h
   rw [hfv] at h1
   obtain ⟨first', cap', hv, hvl1, hvl2⟩ := h1.inv_func
   refine ⟨first' ++ c.args.map a.eval ++ cap', ?_, ?_⟩
   ·simp [execOp, resolve, hc, hv, Deferred.ofValue, invoke]
   ·simp only [Array.toList_append, Array.toList_map]
    exact (hvl1.append h2).append hvl2
  ·cases h
  ·cases h
 ·simp only [aop] at h; split at h <;> cases h
theorem heap_panic {o : Oper} {x : Operand} (hx : okO N G x = true) (ho : ∀ (a : Act) (w : World), (execOp a.eval o).run P w = (do pure (.value (← Instr.panic (a.eval x))) : Sem Next).run P w) : HeapOK P N G o (.panic x) := by
 intro e a H ρ w hr hf
 have h1 := hf.op hx
 refine ⟨fun v H' h => ?_, fun H' h => ?_, fun g args h => ?_, fun v h => ?_⟩
 ·simp only [aop] at h; split at h <;> cases h
 ·simp only [aop] at h; split at h <;> cases h
 ·simp only [aop] at h; split at h <;> cases h
 ·simp only [aop] at h
  split at h
  ·rename_i t y hv
   cases h
   rw [hv] at h1
   obtain ⟨y', hv', hvr⟩ := h1.inv_iface
   refine ⟨.iface t y', ?_, .iface _ _ _ hvr⟩
   rw [ho, hv']
   simp [Instr.panic]
  ·cases h
theorem unit_row {H : Heap} {w : World} {b : Nat} (hr : Rel G ρ H w) (h : unitRow (hget H b) = true) : ∃ cs cells t, H[b]? = some (.row cs 0 true) ∧ w.heap[(ρ b).blk]? = some (.cells cells t (0, 0)) ∧ cells.size ≠ 0 := by
 unfold unitRow at h
 split at h
 ·rename_i cs hrow
  have hb := hget_some hrow rfl
  obtain ⟨cells, t, fr, hh, hc, hw⟩ := hr.obj b _ hb
  obtain ⟨h1, h2, h3⟩ := hw rfl
  rw [h3 rfl] at hh
  simp at h
  exact ⟨cs, cells, t, hb, hh, by have := List.length_pos_iff.2 h; omega⟩
 ·cases h
theorem run_sameAddr {H : Heap} {w : World} {b c o p : Nat} {r : Bool} (hr : Rel G ρ H w) (h : (if b = c then some (o == p) else if unitRow (hget H b) && unitRow (hget H c) then some false else none) = some r) :
  (sameAddr ⟨(ρ b).blk, (ρ b).off + o, none⟩ ⟨(ρ c).blk, (ρ c).off + p, none⟩).run P w = .ok r w := by
 unfold sameAddr
 split at h
 ·rename_i hbc
  subst hbc
  cases h
  simp only [beq_self_eq_true, if_true, Sem.run_pure]
  congr 1
  rw [Bool.eq_iff_iff]
  simp
 ·rename_i hbc
  split at h
  ·rename_i hu
   cases h
   simp only [Bool.and_eq_true] at hu
   obtain ⟨cs1, ce1, t1, g1, g2, g3⟩ := unit_row hr hu.1
   obtain ⟨cs2, ce2, t2, g4, g5, g6⟩ := unit_row hr hu.2
   have hne : (ρ b).blk ≠ (ρ c).blk := hr.inj b c _ _ g1 g4 hbc rfl rfl
   have f1 : ∀ k, w.frozen? ⟨(ρ b).blk, k, none⟩ = false := fun k => by rw [frozen_of g2]; simp
   have f2 : ∀ k, w.frozen? ⟨(ρ c).blk, k, none⟩ = false := fun k => by rw [frozen_of g5]; simp
   have s1 : w.shape? (ρ b).blk = some (t1, ce1.size) := by simp [World.shape?, g2]
   have s2 : w.shape? (ρ c).blk = some (t2, ce2.size) := by simp [World.shape?, g5]
   have n1 : ((some (t1, ce1.size) : Option (TypeId × Nat)) matches some (_, 0)) = false := by
    cases hs : ce1.size with
    | zero => exact absurd hs g3
    | succ k => rfl
   have n2 : ((some (t2, ce2.size) : Option (TypeId × Nat)) matches some (_, 0)) = false := by
    cases hs : ce2.size with
    | zero => exact absurd hs g6
    | succ k => rfl
   have b1 : ((ρ b).blk == (ρ c).blk) = false := by simpa using hne
   simp only [b1, Bool.false_eq_true, if_false, Sem.run_bind, run_frozen, f1, f2, Result.andThen_ok, Bool.and_self, noView, viewAt, run_shape, s1, s2, Option.isSome_some, if_true, Sem.run_pure, Option.isSome_none, mayBeOne, stringish, Bool.false_and, Bool.or_self]
  ·cases h
theorem run_equal_ptr {d : Nat} {t el : TypeId} {s : Nat} {p q : Option Addr} {w : World} (hu : P.underlying t = some (.pointer el)) (hs : szOf P el = some (s + 1)) :
  (Op.equalIn (d + 1) t (.pointer p) (.pointer q)).run P w = match p, q with
   | none, q => .ok q.isNone w
   | some _, none => .ok false w
   | some a, some b => (sameAddr a b).run P w := by
 simp only [Op.equalIn, Sem.run_bind, run_und hu, Result.andThen_ok]
 cases p <;> cases q
 ·rfl
 ·rfl
 ·rfl
 ·simp only [Sem.run_bind, run_size hs, Result.andThen_ok]
  rw [if_pos (by omega)]
theorem run_equal_sl {d : Nat} {t el : TypeId} {p q : Option Addr} {l c l' c' : Nat} {w : World} (hu : P.underlying t = some (.slice el)) (h : p = none ∨ q = none) :
  (Op.equalIn (d + 1) t (.slice p l c) (.slice q l' c')).run P w = .ok (p.isNone && q.isNone) w := by
 simp only [Op.equalIn, Sem.run_bind, run_und hu, Result.andThen_ok]
 cases p <;> cases q
 ·rfl
 ·rfl
 ·rfl
 ·rcases h with h | h <;> cases h
theorem eq_of_equal {op : BinOp} {t : TypeId} {x y : Value} {r : Bool} {w : World} (hop : op = .eql ∨ op = .neq) (h : (Op.equal t x y).run P w = .ok r w)
  (hk : (∃ p q, x = .pointer p ∧ y = .pointer q) ∨ (∃ p l c q l' c', x = .slice p l c ∧ y = .slice q l' c') ∨ (x = .nilFunc ∧ y = .nilFunc) ∨ (∃ f a b, x = .nilFunc ∧ y = .func f a b) ∨ (∃ f a b, x = .func f a b ∧ y = .nilFunc)) :
  (binOp op t x y).run P w = .ok (.bool (r != isNeq op)) w := by
 rcases hk with ⟨p, q, rfl, rfl⟩ | ⟨p, l, c, q, l', c', rfl, rfl⟩ | ⟨rfl, rfl⟩ | ⟨f, a, b, rfl, rfl⟩ | ⟨f, a, b, rfl, rfl⟩ <;> rcases hop with rfl | rfl <;> simp only [binOp, Sem.run_bind, h, Result.andThen_ok, isNeq] <;> simp
theorem heap_eqp {op : BinOp} {t yt : TypeId} {kind : Nat} {x y : Operand} (hx : okO N G x = true) (hy : okO N G y = true) (hop : op = .eql ∨ op = .neq)
  (hk : (kind = 0 ∧ ∃ el s, P.underlying t = some (.pointer el) ∧ szOf P el = some (s + 1)) ∨ (kind = 1 ∧ ∃ el, P.underlying t = some (.slice el)) ∨ (kind = 2 ∧ ∃ ps rs v, P.underlying t = some (.func ps rs v))) :
  HeapOK P N G ⟨dst, .binOp op t x y yt, ty, pos, after, guard⟩ (.eqp kind (isNeq op) x y) := by
 refine HeapOK.of_val (fun e H => ?_) fun e a H ρ w hr hf v H' h => ?_
 ·simp only [aop, ofO]; split <;> first | exact .inr rfl | exact .inl ⟨_, _, rfl⟩
 ·have v1 := hf.op hx
  have v2 := hf.op hy
  simp only [aop] at h
  obtain ⟨h3, rfl⟩ := ofO_val h
  obtain ⟨b, hb, rfl⟩ := Option.map_eq_some_iff.1 h3
  have fin : ∀ (h1 : (Op.equal t (a.eval x) (a.eval y)).run P w = .ok b w)
    (h2 : (∃ p q, a.eval x = .pointer p ∧ a.eval y = .pointer q) ∨ (∃ p l c q l' c', a.eval x = .slice p l c ∧ a.eval y = .slice q l' c') ∨ (a.eval x = .nilFunc ∧ a.eval y = .nilFunc) ∨ (∃ f a' b, a.eval x = .nilFunc ∧ a.eval y = .func f a' b) ∨ (∃ f a' b, a.eval x = .func f a' b ∧ a.eval y = .nilFunc)),
    ∃ ρ' v' w', (execOp a.eval ⟨dst, .binOp op t x y yt, ty, pos, after, guard⟩).run P w = .ok (.value v') w' ∧ Step G ρ H' w ρ' H' w' ∧ VR H'.length ρ' (.bool (b != isNeq op)) v' := by
   intro h1 h2
   refine ⟨ρ, .bool (b != isNeq op), w, ?_, Step.refl hr, .bool _⟩
   simp only [execOp, Sem.run_bind]
   rw [run_eqGuard w]
   ·simp only [Result.andThen_ok, eq_of_equal hop h1 h2, Sem.run_pure]
   ·intro c d hh
    rcases h2 with ⟨p, q, g1, g2⟩ | ⟨p, l, c, q, l', c', g1, g2⟩ | ⟨g1, g2⟩ | ⟨f, a', b, g1, g2⟩ | ⟨f, a', b, g1, g2⟩ <;> rw [g1] at hh <;> cases hh.1
   ·intro hh
    rcases h2 with ⟨p, q, g1, g2⟩ | ⟨p, l, c, q, l', c', g1, g2⟩ | ⟨g1, g2⟩ | ⟨f, a', b, g1, g2⟩ | ⟨f, a', b, g1, g2⟩ <;> rw [g1] at hh <;> cases hh.1
  rcases hk with ⟨rfl, el, s, hu, hs⟩ | ⟨rfl, el, hu⟩ | ⟨rfl, ps, rs, vv, hu⟩
  ·-- places
   simp only [eqP] at hb
   unfold eqPtr at hb
   split at hb
   ·rename_i g1 g2
    rw [g1] at v1; rw [g2] at v2
    cases hb
    refine fin ?_ (.inl ⟨_, _, v1.inv_ptrNil, v2.inv_ptrNil⟩)
    rw [v1.inv_ptrNil, v2.inv_ptrNil]
    exact run_equal_ptr (d := 9999) hu hs
   ·rename_i q g1 g2
    rw [g1] at v1; rw [g2] at v2
    cases hb
    obtain ⟨bb, o, _, _, hv⟩ := v2.inv_ptrSome
    refine fin ?_ (.inl ⟨_, _, v1.inv_ptrNil, hv⟩)
    rw [v1.inv_ptrNil, hv]
    exact run_equal_ptr (d := 9999) hu hs
   ·rename_i q g1 g2
    rw [g1] at v1; rw [g2] at v2
    cases hb
    obtain ⟨bb, o, _, _, hv⟩ := v1.inv_ptrSome
    refine fin ?_ (.inl ⟨_, _, hv, v2.inv_ptrNil⟩)
    rw [v2.inv_ptrNil, hv]
    exact run_equal_ptr (d := 9999) hu hs
   ·rename_i b1 o1 c1 p1 g1 g2
    rw [g1] at v1; rw [g2] at v2
    have hv1 := v1.inv_ptr.2
    have hv2 := v2.inv_ptr.2
    refine fin ?_ (.inl ⟨_, _, hv1, hv2⟩)
    rw [hv1, hv2]
    exact (run_equal_ptr (d := 9999) hu hs).trans (run_sameAddr hr hb)
   ·cases hb
  ·simp only [eqP] at hb
   unfold eqSl at hb
   have shape : ∀ {q : Option Addr} {l c : Nat} {z : Value}, VR H'.length ρ (.slice q l c) z → ∃ q' l' c', z = .slice q' l' c' ∧ q'.isNone = q.isNone := fun h => by
    rcases h.inv_slice with ⟨rfl, _, _, hv⟩ | ⟨_, _, _, rfl, _, _, _, _, hv⟩ | ⟨_, _, _, _, _, rfl, _, _, hv⟩ <;> exact ⟨_, _, _, hv, rfl⟩
   have both : ∀ {q r : Option Addr} {l c l' c' : Nat}, VR H'.length ρ (.slice q l c) (a.eval x) → VR H'.length ρ (.slice r l' c') (a.eval y) → q = none ∨ r = none → b = (q.isNone && r.isNone) →
     ∃ ρ' v' w', (execOp a.eval ⟨dst, .binOp op t x y yt, ty, pos, after, guard⟩).run P w = .ok (.value v') w' ∧ Step G ρ H' w ρ' H' w' ∧ VR H'.length ρ' (.bool (b != isNeq op)) v' := by
    intro q r l c l' c' w1 w2 hn hbq
    obtain ⟨q1, l1, c1, hv1, hq1⟩ := shape w1
    obtain ⟨q2, l2, c2, hv2, hq2⟩ := shape w2
    refine fin ?_ (.inr (.inl ⟨_, _, _, _, _, _, hv1, hv2⟩))
    rw [hv1, hv2, hbq, ← hq1, ← hq2]
    refine run_equal_sl (d := 9999) hu ?_
    rcases hn with rfl | rfl
    ·exact .inl (by simpa using hq1)
    ·exact .inr (by simpa using hq2)
   split at hb
   ·rename_i g1 g2
    rw [g1] at v1; rw [g2] at v2
    cases hb
    exact both v1 v2 (.inl rfl) rfl
   ·rename_i g1 g2
    rw [g1] at v1; rw [g2] at v2
    cases hb
    exact both v1 v2 (.inl rfl) rfl
   ·rename_i g1 g2
    rw [g1] at v1; rw [g2] at v2
    cases hb
    exact both v1 v2 (.inr rfl) rfl
   ·cases hb
  ·simp only [eqP] at hb
   unfold eqFn at hb
   have run2 : ∀ (u v : Value) (r : Bool), ((u = .nilFunc ∧ v = .nilFunc ∧ r = true) ∨ (∃ f c d, u = .nilFunc ∧ v = .func f c d ∧ r = false) ∨ (∃ f c d, u = .func f c d ∧ v = .nilFunc ∧ r = false)) → (Op.equalIn (9999 + 1) t u v).run P w = .ok r w := by
    intro u v r h
    generalize 9999 = d0
    simp only [Op.equalIn, Sem.run_bind, run_und hu, Result.andThen_ok]
    rcases h with ⟨rfl, rfl, rfl⟩ | ⟨_, _, _, rfl, rfl, rfl⟩ | ⟨_, _, _, rfl, rfl, rfl⟩ <;> rfl
   split at hb
   ·rename_i g1 g2
    rw [g1] at v1; rw [g2] at v2
    cases hb
    exact fin (run2 _ _ _ (.inl ⟨v1.inv_nilFunc, v2.inv_nilFunc, rfl⟩)) (.inr (.inr (.inl ⟨v1.inv_nilFunc, v2.inv_nilFunc⟩)))
   ·rename_i f c d g1 g2
    rw [g1] at v1; rw [g2] at v2
    cases hb
    obtain ⟨_, f', c', hv⟩ := v2.inv_anyfunc
    exact fin (run2 _ _ _ (.inr (.inl ⟨_, _, _, v1.inv_nilFunc, hv, rfl⟩))) (.inr (.inr (.inr (.inl ⟨_, _, _, v1.inv_nilFunc, hv⟩))))
   ·rename_i f c d g1 g2
    rw [g1] at v1; rw [g2] at v2
    cases hb
    obtain ⟨_, f', c', hv⟩ := v1.inv_anyfunc
    exact fin (run2 _ _ _ (.inr (.inr ⟨_, _, _, hv, v2.inv_nilFunc, rfl⟩))) (.inr (.inr (.inr (.inr ⟨_, _, _, hv, v2.inv_nilFunc⟩))))
   ·cases hb
end
section
variable {P : Program} {N G n : Nat} {ρ : Nat → Place}
variable {dst : Option Nat} {ty : TypeId} {pos : String} {after : Array Edge} {guard : Option (Nat × Bool)}
/-- What has to be shown of an operation: it does as the model's; if it is still and no load, in every world alike. -/
def Shape (ao : AOp) : Prop := ∀ e H, (∃ v H', aop e H ao = .val v H') ∨ aop e H ao = .no
def OpOK (P : Program) (N G : Nat) (o : Oper) (ao : AOp) : Prop :=
 HeapOK P N G o ao ∧ (stillOp P o.op = true → isLoad o.op = false → ∀ n ρ, PureOK P N G n ρ o ao) ∧ (stillOp P o.op = true → Shape ao)
theorem OpOK.pure {o : Oper} {ao : AOp} (hs : ∀ e H, (∃ v H', aop e H ao = .val v H') ∨ aop e H ao = .no) (h : ∀ n ρ, PureOK P N G n ρ o ao) : OpOK P N G o ao := ⟨HeapOK.of_pure hs h, fun _ _ => h, fun _ => hs⟩
theorem OpOK.heap {o : Oper} {ao : AOp} (h : HeapOK P N G o ao) (hs : stillOp P o.op = false ∨ (isLoad o.op = true ∧ Shape ao)) : OpOK P N G o ao :=
 ⟨h, fun h1 h2 => by rcases hs with hs | hs <;> simp_all, fun h1 => by rcases hs with hs | hs <;> simp_all⟩
theorem ofO_shape (o : Option Value) (H : Heap) : (∃ v H', ofO o H = .val v H') ∨ ofO o H = .no := by
 cases o with
 | none => exact .inr rfl
 | some v => exact .inl ⟨_, _, rfl⟩
theorem bin_ok {op : BinOp} {t yt : TypeId} {x y : Operand} {ao : AOp} (hx : okO N G x = true) (hy : okO N G y = true) (h : prepBin P op t x y = some ao) : OpOK P N G ⟨dst, .binOp op t x y yt, ty, pos, after, guard⟩ ao := by
 have hbin : OpOK P N G ⟨dst, .binOp op t x y yt, ty, pos, after, guard⟩ (.bin op x y) := OpOK.pure (fun e H => ofO_shape _ _) fun n ρ => pure_bin hx hy
 have eqv : (op = .eql ∨ op = .neq) → OpOK P N G ⟨dst, .binOp op t x y yt, ty, pos, after, guard⟩ ao := by
  intro hop
  have h2 : (match P.underlying t with
   | some (.int _) | some .string => some (AOp.bin op x y)
   | some .bool => some (.eqb (isNeq op) x y)
   | some (.pointer el) =>
    match szOf P el with
    | some (_ + 1) => some (.eqp 0 (isNeq op) x y)
    | _ => none
   | some (.slice _) => some (.eqp 1 (isNeq op) x y)
   | some (.func _ _ _) => some (.eqp 2 (isNeq op) x y)
   | some (.struct _) | some (.array _ _) => match fitsFlat P t, szOf P t with
    | some l, some sz => some (.eqs (isNeq op) sz l x y)
    | _, _ => none
   | _ => none) = some ao := by
   rcases hop with rfl | rfl <;> exact h
  split at h2
  ·cases h2; exact hbin
  ·cases h2; exact hbin
  ·rename_i hu
   cases h2
   exact OpOK.pure (fun e H => ofO_shape _ _) fun n ρ => pure_eqb hx hy hu hop
  ·rename_i el hu
   split at h2
   ·rename_i s hs
    cases h2
    exact OpOK.heap (heap_eqp hx hy hop (.inl ⟨rfl, el, s, hu, hs⟩)) (.inl (by simp only [stillOp, hu]; rcases hop with rfl | rfl <;> rfl))
   ·cases h2
  ·rename_i el hu
   cases h2
   exact OpOK.heap (heap_eqp hx hy hop (.inr (.inl ⟨rfl, el, hu⟩))) (.inl (by simp only [stillOp, hu]; rcases hop with rfl | rfl <;> rfl))
  ·rename_i ps rs vv hu
   cases h2
   exact OpOK.heap (heap_eqp hx hy hop (.inr (.inr ⟨rfl, ps, rs, vv, hu⟩))) (.inl (by simp only [stillOp, hu]; rcases hop with rfl | rfl <;> rfl))
  ·rename_i fs hu
   split at h2
   ·rename_i l sz hl hsz
    cases h2
    exact OpOK.pure (fun e H => by simp only [aop]; (repeat' split) <;> first | exact .inr rfl | exact ofO_shape _ _) fun n ρ => pure_eqs hx hy hl hsz (by simp [aggT, hu]) hop
   ·cases h2
  ·rename_i m el hu
   split at h2
   ·rename_i l sz hl hsz
    cases h2
    exact OpOK.pure (fun e H => by simp only [aop]; (repeat' split) <;> first | exact .inr rfl | exact ofO_shape _ _) fun n ρ => pure_eqs hx hy hl hsz (by simp [aggT, hu]) hop
   ·cases h2
  ·cases h2
 cases op <;> first
  | exact eqv (.inl rfl)
  | exact eqv (.inr rfl)
  | (simp only [prepBin] at h; cases h; exact hbin)
theorem call_ok {c : Call} {ao : AOp} (h : prepCall P N G c = some ao) : OpOK P N G ⟨dst, .call c, ty, pos, after, guard⟩ ao := by
 unfold prepCall at h
 split at h
 ·cases h
 ·rename_i hargs
  have hx : c.args.toList.all (okO N G) = true := by simpa using hargs
  have one : ∀ {x : Operand}, c.args.toList = [x] → okO N G x = true := fun e => by rw [e] at hx; simpa using hx
  have two : ∀ {x y : Operand}, c.args.toList = [x, y] → okO N G x = true ∧ okO N G y = true := fun e => by rw [e] at hx; simpa using hx
  split at h
  ·rename_i f hc
   split at h
   ·rename_i hf
    cases h
    exact OpOK.heap (heap_callv hc hf hx) (.inl (by simp [stillOp, hc]))
   ·cases h
  ·cases h
  ·rename_i hc
   split at h
   ·rename_i t x ht ha
    split at h
    ·rename_i hu
     cases h
     exact OpOK.pure (fun e H => by simp only [aop]; (repeat' split) <;> first | exact .inr rfl | exact .inl ⟨_, _, rfl⟩) fun n ρ => pure_lenStr hc ha ht (one ha) hu
    ·rename_i el hu
     cases h
     exact OpOK.pure (fun e H => by simp only [aop]; (repeat' split) <;> first | exact .inr rfl | exact .inl ⟨_, _, rfl⟩) fun n ρ => pure_lenSl hc ha ht (one ha) hu
    ·rename_i m el hu
     cases h
     exact OpOK.pure (fun e H => .inl ⟨_, _, rfl⟩) fun n ρ => pure_lenK hc ha ht (.inl hu)
    ·rename_i t' hu
     split at h
     ·rename_i m el hu'
      cases h
      exact OpOK.pure (fun e H => .inl ⟨_, _, rfl⟩) fun n ρ => pure_lenK hc ha ht (.inr ⟨t', hu, hu'⟩)
     ·cases h
    ·cases h
   ·cases h
  ·rename_i hc
   split at h
   ·rename_i t u s x ht hu' ha
    split at h
    ·rename_i el xl hu hxt
     split at h
     ·rename_i n b z hs hb hz
      split at h
      ·rename_i hzl
       cases h
       exact OpOK.heap (heap_append hc ha (two ha).1 (two ha).2 ht hu' hu hxt (fun k e => by cases e) hs hb hz (by omega) (by omega) hzl) (.inl (by simp [stillOp, hc]))
      ·cases h
     ·cases h
    ·rename_i el hu hxt
     split at h
     ·rename_i n b z hs hb hz
      split at h
      ·rename_i hzl
       cases h
       exact OpOK.heap (heap_append hc ha (two ha).1 (two ha).2 ht hu' hu hxt (fun k e => by cases e) hs hb hz (by omega) (by omega) hzl) (.inl (by simp [stillOp, hc]))
      ·cases h
     ·cases h
    ·cases h
   ·cases h
  ·rename_i hc
   split at h
   ·rename_i t d s ht ha
    split at h
    ·rename_i el hu
     obtain ⟨m, hm, rfl⟩ := Option.map_eq_some_iff.1 h
     exact OpOK.heap (heap_copy hc ha (two ha).1 (two ha).2 ht hu hm) (.inl (by simp [stillOp, hc]))
    ·cases h
   ·cases h
  ·rename_i hc
   cases h
   exact OpOK.pure (fun e H => by simp only [aop]; split <;> first | exact .inr rfl | exact ofO_shape _ _) fun n ρ => pure_mm (big := true) hc hx
  ·rename_i hc
   cases h
   exact OpOK.pure (fun e H => by simp only [aop]; split <;> first | exact .inr rfl | exact ofO_shape _ _) fun n ρ => pure_mm (big := false) hc hx
  ·rename_i hc
   split at h
   ·rename_i x ha
    cases h
    refine OpOK.heap (heap_panic (one ha) fun a w => ?_) (.inl (by simp [stillOp, hc]))
    have : c.args = #[x] := by rw [← Array.toArray_toList (xs := c.args), ha]
    simp [execOp, resolve, hc, invoke, builtin, this]
   ·cases h
  ·cases h
end
section
variable {P : Program} {N G n : Nat} {ρ : Nat → Place} {e : Env} {a : Act} {H H' : Heap} {v : Value} {dst : Option Nat} {ty : TypeId} {pos : String} {after : Array Edge} {guard : Option (Nat × Bool)}
theorem run_zeroVal {t : TypeId} {z : Value} (h : zeroVal P t = some z) : (∀ w, (zeroValue t).run P w = .ok z w) ∧ closedV z = true := by
 unfold zeroVal at h
 split at h
 ·rename_i v hv
  split at h
  ·rename_i hc
   cases h
   obtain ⟨i, hi, hz⟩ := Option.bind_eq_some_iff.1 hv
   exact ⟨fun w => by simp [zeroValue, run_info hi, hz], hc⟩
  ·cases h
 ·cases h
theorem keyT_spec {t : TypeId} {kt : KeyT} (h : keyT P t = some kt) :
  (P.underlying t = some .bool ∧ kt = .prim 0) ∨ (∃ k, P.underlying t = some (.int k) ∧ kt = .prim 1) ∨ (P.underlying t = some .string ∧ kt = .prim 2) ∨
  (∃ m el k l sz, P.underlying t = some (.array m el) ∧ P.underlying el = some (.int k) ∧ fitsFlat P t = some l ∧ szOf P t = some sz ∧ szOf P el = some 1 ∧ m ≤ sz ∧ kt = .flat sz l) := by
 unfold keyT at h
 split at h
 ·rename_i hu; cases h; exact .inl ⟨hu, rfl⟩
 ·rename_i k hu; cases h; exact .inr (.inl ⟨k, hu, rfl⟩)
 ·rename_i hu; cases h; exact .inr (.inr (.inl ⟨hu, rfl⟩))
 ·rename_i m el hu
  split at h
  ·rename_i k hel
   split at h
   ·rename_i l sz h1 h2 h3
    split at h
    ·rename_i hm; cases h; exact .inr (.inr (.inr ⟨m, el, k, l, sz, hu, hel, h1, h2, h3, hm, rfl⟩))
    ·cases h
   ·cases h
  ·cases h
 ·cases h
theorem keyOk0 {x : Value} (h : keyOk (.prim 0) x = true) : ∃ b, x = .bool b := by cases x <;> simp [keyOk] at h; exact ⟨_, rfl⟩
theorem keyOk1 {x : Value} (h : keyOk (.prim 1) x = true) : ∃ k i, x = .int k i := by cases x <;> simp [keyOk] at h; exact ⟨_, _, rfl⟩
theorem keyOk2 {x : Value} (h : keyOk (.prim 2) x = true) : ∃ b, x = .string b := by cases x <;> simp [keyOk] at h; exact ⟨_, rfl⟩
theorem keyOkF {sz : Nat} {fs : List (Nat × Nat)} {x : Value} (h : keyOk (.flat sz fs) x = true) : ∃ xs, x = .agg xs ∧ xs.toList.length = sz := by
 cases x <;> simp [keyOk] at h; exact ⟨_, rfl, by simpa using h⟩
theorem run_check {t : TypeId} {kt : KeyT} (h : keyT P t = some kt) {x y : Value} (hx : keyOk kt x = true) (hv : VR n ρ x y) (em : Bool) (w : World) : (Instr.checkKey em 10000 t y).run P w = .ok () w := by
 rcases keyT_spec h with ⟨hu, rfl⟩ | ⟨k, hu, rfl⟩ | ⟨hu, rfl⟩ | ⟨m, el, k, l, sz, hu, hel, h1, h2, h3, hm, rfl⟩
 ·obtain ⟨b, rfl⟩ := keyOk0 hx
  rw [hv.inv_bool]
  unfold Instr.checkKey
  simp [run_und hu]
 ·obtain ⟨b, i, rfl⟩ := keyOk1 hx
  rw [hv.inv_int]
  unfold Instr.checkKey
  simp [run_und hu]
 ·obtain ⟨b, rfl⟩ := keyOk2 hx
  rw [hv.inv_string]
  unfold Instr.checkKey
  simp [run_und hu]
 ·obtain ⟨xs, rfl, hlen⟩ := keyOkF hx
  obtain ⟨ys, rfl, hl⟩ := hv.inv_agg
  have hsz : ys.size = sz := by have := hl.1; simp only [Array.length_toList] at this hlen; omega
  have hagg : aggT P el = some false := by simp [aggT, hel]
  unfold Instr.checkKey
  simp only [Sem.run_bind, run_und hu, Result.andThen_ok]
  simp only [Std.Legacy.Range.forIn_eq_forIn_range', Std.Legacy.Range.size, Nat.sub_zero, Nat.add_one_sub_one, Nat.div_one]
  have hin : ∀ j ∈ List.range' 0 m, j < ys.size := fun j hj => by
   rw [List.mem_range'] at hj
   obtain ⟨i, hi, rfl⟩ := hj
   omega
  generalize List.range' 0 m = is at hin
  induction is with
  | nil => simp
  | cons j is ih =>
   have hj := hin j (by simp)
   have p1 : (part el ys (j * 1)).run P w = .ok ys[j] w := by
    unfold part
    simp [run_agg hagg, hj]
   have p2 : (Instr.checkKey em 9999 el ys[j]).run P w = .ok () w := by
    unfold Instr.checkKey
    simp [run_und hel]
   simp only [List.forIn_cons, Sem.run_bind, run_size h3, Result.andThen_ok, p1, p2, Sem.run_pure]
   exact ih (fun y hy => hin y (by simp [hy]))
/-- Where a key is found. -/
theorem run_find {t : TypeId} {kt : KeyT} (h : keyT P t = some kt) {x y : Value} (hx : keyOk kt x = true) (hv : VR n ρ x y) {es : List (Value × Value)} {ms : List MapEntry} (he : VE n ρ es ms) {r : Option (Nat × Value)}
  (hf : findK kt x es 0 = some r) (w : World) : ∃ r', (Instr.findKey t y ms).run P w = .ok r' w ∧ match r with
   | none => r' = none
   | some (i, v) => ∃ e v', es[i]? = some e ∧ keyEq kt x e.1 = some true ∧ v = e.2 ∧ r' = some (i, v') ∧ VR n ρ v v' := by
 -- keys of one word
 have plain : ∀ (d : TypeDesc) (tag : Nat), P.underlying t = some d → kt = .prim tag → (∀ z z' : Value, VR n ρ z z' → ∀ q, eqT1 tag x z = some q → Instr.sameNow d y z' = some q) →
   ∀ (es : List (Value × Value)) (ms : List MapEntry) (k : Nat) (r : Option (Nat × Value)), VE n ρ es ms → findK kt x es k = some r → ∃ r', Instr.findNow d y ms k = some r' ∧ match r with
    | none => r' = none
    | some (i, v) => ∃ e v', k ≤ i ∧ es[i - k]? = some e ∧ keyEq kt x e.1 = some true ∧ v = e.2 ∧ r' = some (i, v') ∧ VR n ρ v v' := by
  intro d tag hu hkt hs es
  induction es with
  | nil =>
   intro ms k r he hf
   have : ms = [] := by have := he.1.1; simp at this; exact List.eq_nil_of_length_eq_zero this.symm
   subst this
   simp only [findK] at hf
   cases hf
   exact ⟨none, rfl, rfl⟩
  | cons e es ih =>
   intro ms k r he hf
   cases ms with
   | nil => have := he.1.1; simp at this
   | cons m ms =>
   have h1 := he.1.head
   have h2 := he.2.head
   have ht : VE n ρ es ms := ⟨he.1.tail, he.2.tail⟩
   simp only [findK] at hf
   split at hf
   ·rename_i hq
    cases hf
    have hq2 := hq
    rw [hkt] at hq2
    exact ⟨some (k, m.val), by simp only [Instr.findNow, hs _ _ h1 _ hq2], e, m.val, Nat.le_refl _, by simp, hq, rfl, rfl, h2⟩
   ·rename_i hq
    have hq2 := hq
    rw [hkt] at hq2
    obtain ⟨r', h3, h4⟩ := ih ms (k + 1) r ht hf
    refine ⟨r', by simp only [Instr.findNow, hs _ _ h1 _ hq2, h3], ?_⟩
    cases r with
    | none => exact h4
    | some p =>
     obtain ⟨i, v⟩ := p
     obtain ⟨e', v', g1, g2, g3⟩ := h4
     exact ⟨e', v', by omega, by rw [show i - k = (i - (k + 1)) + 1 by omega]; simpa using g2, g3⟩
   ·cases hf
 have done : ∀ (d : TypeDesc) (tag : Nat), P.underlying t = some d → kt = .prim tag → (∀ z z' : Value, VR n ρ z z' → ∀ q, eqT1 tag x z = some q → Instr.sameNow d y z' = some q) → ∃ r', (Instr.findKey t y ms).run P w = .ok r' w ∧ match r with
   | none => r' = none
   | some (i, v) => ∃ e v', es[i]? = some e ∧ keyEq kt x e.1 = some true ∧ v = e.2 ∧ r' = some (i, v') ∧ VR n ρ v v' := by
  intro d tag hu hkt hs
  obtain ⟨r', h1, h2⟩ := plain d tag hu hkt hs es ms 0 r he hf
  refine ⟨r', MapKept.run_findKey hu h1, ?_⟩
  cases r with
  | none => exact h2
  | some p =>
   obtain ⟨i, v⟩ := p
   obtain ⟨e', v', _, g2, g3⟩ := h2
   exact ⟨e', v', by simpa using g2, g3⟩
 rcases keyT_spec h with ⟨hu, rfl⟩ | ⟨k, hu, rfl⟩ | ⟨hu, rfl⟩ | ⟨m, el, k, l, sz, hu, hel, h1, h2, h3, hm, rfl⟩
 ·obtain ⟨b, rfl⟩ := keyOk0 hx
  refine done _ 0 hu rfl fun z z' hz q hq => ?_
  unfold eqT1 at hq
  cases z <;> simp at hq
  rw [hv.inv_bool, hz.inv_bool]
  simp [Instr.sameNow, hq]
 ·obtain ⟨b, i, rfl⟩ := keyOk1 hx
  refine done _ 1 hu rfl fun z z' hz q hq => ?_
  unfold eqT1 at hq
  cases z <;> simp at hq
  rw [hv.inv_int, hz.inv_int]
  simp [Instr.sameNow, hq]
 ·obtain ⟨b, rfl⟩ := keyOk2 hx
  refine done _ 2 hu rfl fun z z' hz q hq => ?_
  unfold eqT1 at hq
  cases z <;> simp at hq
  rw [hv.inv_string, hz.inv_string]
  simp [Instr.sameNow, beq_bytes, hq]
 ·obtain ⟨xs, rfl, hlen⟩ := keyOkF hx
  obtain ⟨ys, rfl, hl⟩ := hv.inv_agg
  have hysz : ys.size = sz := by have := hl.1; simp only [Array.length_toList] at this hlen; omega
  have hagg : aggT P t = some true := by simp [aggT, hu]
  unfold fitsFlat at h1
  split at h1
  ·cases h1
  rename_i hg
  have eqs : ∀ (z z' : Value), VR n ρ z z' → ∀ q, keyEq (.flat sz l) (.agg xs) z = some q → (Op.equal t (.agg ys) z').run P w = .ok q w := by
   intro z z' hz q hq
   simp only [keyEq] at hq
   split at hq
   ·rename_i as bs hA
    cases hA
    split at hq
    ·rename_i hc
     obtain ⟨zs, rfl, hlz⟩ := hz.inv_agg
     have hzsz : zs.size = sz := by have := hlz.1; simp only [Array.length_toList] at this hc; omega
     have he := flat_eq (P := P) 12 t 0 l h1 9988 ys zs q w (eqL_same hl hlz l q hq)
     have p1 : partV P t ys 0 = .agg ys := by simp [partV, hagg, h2, ← hysz]
     have p2 : partV P t zs 0 = .agg zs := by simp [partV, hagg, h2, ← hzsz]
     rw [p1, p2] at he
     exact he
    ·cases hq
   ·cases hq
  have ask : ∀ (es : List (Value × Value)) (ms : List MapEntry) (k : Nat) (r : Option (Nat × Value)), VE n ρ es ms → findK (.flat sz l) (.agg xs) es k = some r → ∃ r', (Instr.findAsking t (.agg ys) ms k).run P w = .ok r' w ∧ match r with
    | none => r' = none
    | some (i, v) => ∃ e v', k ≤ i ∧ es[i - k]? = some e ∧ keyEq (.flat sz l) (.agg xs) e.1 = some true ∧ v = e.2 ∧ r' = some (i, v') ∧ VR n ρ v v' := by
   intro es
   induction es with
   | nil =>
    intro ms k r he hf
    have : ms = [] := by have := he.1.1; simp at this; exact List.eq_nil_of_length_eq_zero this.symm
    subst this
    simp only [findK] at hf
    cases hf
    exact ⟨none, by simp [Instr.findAsking], rfl⟩
   | cons e es ih =>
    intro ms k r he hf
    cases ms with
    | nil => have := he.1.1; simp at this
    | cons m ms =>
    have g1 := he.1.head
    have g2 := he.2.head
    have ht : VE n ρ es ms := ⟨he.1.tail, he.2.tail⟩
    simp only [findK] at hf
    split at hf
    ·rename_i hq
     cases hf
     refine ⟨some (k, m.val), ?_, e, m.val, Nat.le_refl _, by simp, hq, rfl, rfl, g2⟩
     simp only [Instr.findAsking, Sem.run_bind, eqs _ _ g1 _ hq, Result.andThen_ok, if_true, Sem.run_pure]
    ·rename_i hq
     obtain ⟨r', h3, h4⟩ := ih ms (k + 1) r ht hf
     refine ⟨r', ?_, ?_⟩
     ·simp only [Instr.findAsking, Sem.run_bind, eqs _ _ g1 _ hq, Result.andThen_ok, Bool.false_eq_true, if_false, h3]
     ·cases r with
      | none => exact h4
      | some p =>
       obtain ⟨i, v⟩ := p
       obtain ⟨e', v', k1, k2, k3⟩ := h4
       exact ⟨e', v', by omega, by rw [show i - k = (i - (k + 1)) + 1 by omega]; simpa using k2, k3⟩
    ·cases hf
  obtain ⟨r', g1, g2⟩ := ask es ms 0 r he hf
  refine ⟨r', ?_, ?_⟩
  ·unfold Instr.findKey
   simp only [Sem.run_bind, run_und hu, Result.andThen_ok]
   cases ms with
   | nil =>
    simp only [Instr.findAsking, Sem.run_pure] at g1
    simp only [Instr.findNow]
    exact g1
   | cons m ms =>
    simp only [Instr.findNow, Instr.sameNow]
    exact g1
  ·cases r with
   | none => exact g2
   | some p =>
    obtain ⟨i, v⟩ := p
    obtain ⟨e', v', _, k2, k3⟩ := g2
    exact ⟨e', v', by simpa using k2, k3⟩
theorem heap_mkMap {t : TypeId} : HeapOK P N G ⟨dst, .makeMap t none, ty, pos, after, guard⟩ .mkMap := by
 refine HeapOK.of_val (fun e H => .inl ⟨_, _, rfl⟩) fun e a H ρ w hr hf v H' h => ?_
 simp only [aop, ARes.val.injEq] at h
 obtain ⟨rfl, rfl⟩ := h
 refine ⟨ext ρ H.length ⟨w.heap.size, 0, 0⟩, .map (some w.heap.size), { w with heap := w.heap.push (.map #[] 0) }, ?_, Step.new hr _ _ 0 ⟨#[], 0, by simp [ext_same], VL.nil, VL.nil⟩, ?_⟩
 ·simp [execOp, Instr.makeMap]
 ·have := VR.mapSome (n := (H ++ [AObj.map []]).length) (ρ := ext ρ H.length ⟨w.heap.size, 0, 0⟩) H.length (by simp)
  simpa [ext_same] using this
theorem heap_lookup {t key el : TypeId} {kt : KeyT} {z : Value} {ok : Bool} {x i : Operand} (hx : okO N G x = true) (hi : okO N G i = true) (hu : P.underlying t = some (.map key el)) (hk : keyT P key = some kt) (hz : zeroVal P el = some z) :
  HeapOK P N G ⟨dst, .lookup t x i ok, ty, pos, after, guard⟩ (.lookup kt z ok x i) := by
 obtain ⟨hzr, hzc⟩ := run_zeroVal hz
 refine HeapOK.of_val (fun e H => ?_) fun e a H ρ w hr hf v H' h => ?_
 ·simp only [aop]; (repeat' split) <;> first | exact .inr rfl | exact .inl ⟨_, _, rfl⟩
 ·have h1 := hf.op hx
  have h2 := hf.op hi
  simp only [aop] at h
  split at h
  ·rename_i hm
   rw [hm] at h1
   have hv := h1.inv_mapNil
   split at h
   ·rename_i hko
    have hc := run_check hk hko h2 true w
    have hf0 : (Instr.findKey key (a.eval i) []).run P w = .ok none w := by
     obtain ⟨r', q1, q2⟩ := run_find (P := P) hk hko h2 (es := []) (ms := []) ⟨VL.nil, VL.nil⟩ (r := none) rfl w
     rw [q1, q2]
    cases h
    refine ⟨ρ, if ok then .tuple #[z, .bool false] else z, w, ?_, Step.refl hr, ?_⟩
    ·simp [execOp, Instr.lookup, run_und hu, hv, hc, hf0, hzr]
    ·cases ok
     ·exact .of_closed hzc
     ·exact VL.tuple (.cons (.of_closed hzc) (.cons (.bool _) .nil))
   ·cases h
  ·rename_i b hm
   rw [hm] at h1
   obtain ⟨hb, hv⟩ := h1.inv_map
   split at h
   ·rename_i es hrow
    obtain ⟨ms, clock, hh, hve⟩ := hr.obj b _ (hget_some hrow rfl)
    have hget := MapKept.run_getObj_map (P := P) hh
    split at h
    ·rename_i hko
     have hc := run_check hk hko h2 ms.isEmpty w
     split at h
     ·rename_i j y hfk
      cases h
      obtain ⟨r', q1, _, v', _, _, _, rfl, hvr⟩ := run_find hk hko h2 hve hfk w
      refine ⟨ρ, if ok then .tuple #[v', .bool true] else v', w, ?_, Step.refl hr, ?_⟩
      ·simp [execOp, Instr.lookup, run_und hu, hv, hget, hc, q1]
      ·cases ok
       ·exact hvr
       ·exact VL.tuple (.cons hvr (.cons (.bool _) .nil))
     ·rename_i hfk
      cases h
      obtain ⟨r', q1, rfl⟩ := run_find hk hko h2 hve hfk w
      refine ⟨ρ, if ok then .tuple #[z, .bool false] else z, w, ?_, Step.refl hr, ?_⟩
      ·simp [execOp, Instr.lookup, run_und hu, hv, hget, hc, q1, hzr]
      ·cases ok
       ·exact .of_closed hzc
       ·exact VL.tuple (.cons (.of_closed hzc) (.cons (.bool _) .nil))
     ·cases h
    ·cases h
   ·cases h
  ·cases h
theorem VL.setE {xs ys : List Value} (h : VL n ρ xs ys) {x y : Value} (hv : VR n ρ x y) (i : Nat) : VL n ρ (xs.set i x) (ys.set i y) := by
 refine ⟨by simp [h.1], fun j u v hu hvv => ?_⟩
 rw [List.getElem?_set] at hu hvv
 split at hu
 ·rename_i hij
  rw [if_pos hij] at hvv
  split at hu
  ·split at hvv
   ·cases hu; cases hvv; exact hv
   ·cases hvv
  ·cases hu
 ·rename_i hij
  rw [if_neg hij] at hvv
  exact h.2 j u v hu hvv
/-- A map changes in its place. -/
theorem map_put {H : Heap} {w : World} (hr : Rel G ρ H w) {b : Nat} {es es2 : List (Value × Value)} (hb : H[b]? = some (.map es)) {ms ms2 : Array MapEntry} {clock c2 : Nat} (hh : w.heap[(ρ b).blk]? = some (.map ms clock))
  (hv : VE H.length ρ es2 ms2.toList) : Step G ρ H w ρ (H.set b (.map es2)) { w with heap := w.heap.setIfInBounds (ρ b).blk (.map ms2 c2) } := by
 have hlt : (ρ b).blk < w.heap.size := (Array.getElem?_eq_some_iff.1 hh).1
 refine Step.upd hr hb rfl rfl (by simp) (fun c hc => by simp [Ne.symm hc]) rfl rfl rfl (fun r h => by rw [hh] at h; cases h) ⟨ms2, c2, by simp [hlt], hv⟩
theorem bits_same {tag : Nat} {x y x' y' : Value} (h : eqT1 tag x y = some true) (hx : VR n ρ x x') (hy : VR n ρ y y') : Instr.sameBits 10000 y' x' = true := by
 unfold eqT1 at h
 split at h
 ·simp at h; subst h; rw [hx.inv_bool, hy.inv_bool]; simp [Instr.sameBits]
 ·split at h
  ·rename_i hk; simp at h; subst h; subst hk; rw [hx.inv_int, hy.inv_int]; simp [Instr.sameBits]
  ·cases h
 ·simp at h
  rename_i s s'
  have : s = s' := by cases s; cases s'; simp at h; rw [h]
  subst this
  rw [hx.inv_string, hy.inv_string]
  simp [Instr.sameBits, beq_bytes]
 ·cases h
theorem heap_mapUpd {t key el : TypeId} {kt : KeyT} {m k y : Operand} {o : Oper} (hm : okO N G m = true) (hk0 : okO N G k = true) (hy : okO N G y = true) (hu : P.underlying t = some (.map key el)) (hk : keyT P key = some kt)
  (ho : ∀ ev, execOp ev o = (do Instr.mapUpdate t (ev m) (ev k) (ev y); pure .skip)) : HeapOK P N G o (.mapUpd kt m k y) := by
 intro e a H ρ w hr hf
 have h1 := hf.op hm
 have h2 := hf.op hk0
 have h3 := hf.op hy
 refine ⟨fun v H' h => ?_, fun H' h => ?_, fun f args h => ?_, fun v h => ?_⟩
 ·simp only [aop] at h; (repeat' split at h) <;> cases h
 ·simp only [aop] at h
  split at h
  ·rename_i b hb
   rw [hb] at h1
   obtain ⟨hbn, hv⟩ := h1.inv_map
   split at h
   ·rename_i es hrow
    have hb' := hget_some hrow rfl
    obtain ⟨ms, clock, hh, hve⟩ := hr.obj b _ hb'
    have hget := MapKept.run_getObj_map (P := P) hh
    have hset := fun o => MapKept.run_setObj_map (P := P) o hh
    split at h
    ·rename_i hko
     have hc := run_check hk hko h2 false w
     split at h
     ·rename_i i old hfk
      split at h
      ·rename_i hpr
       cases h
       obtain ⟨r', q1, en, v', hen, hkq, _, rfl, hvr⟩ := run_find hk hko h2 hve hfk w
       -- the key that stands there has the same bits
       have hlen : es.length = ms.toList.length := by have := hve.1.1; simpa using this
       have hi : i < es.length := (List.getElem?_eq_some_iff.1 hen).1
       have him : i < ms.size := by have := hlen; simp at this; omega
       have hkey : VR H.length ρ en.1 ms[i].key := hve.1.2 i en.1 ms[i].key (by simp [hen]) (by simp [him])
       have hsame : Instr.sameBits 10000 ms[i].key (a.eval k) = true := by
        cases kt with
        | prim tag => exact bits_same hkq h2 hkey
        | flat sz fs => cases hpr
       have hmod : (ms.modify i fun e => { e with key := a.eval k, val := a.eval y }).toList = ms.toList.set i { ms[i] with key := a.eval k, val := a.eval y } := by
        rw [modify_eq ms i _ ms[i] (by simp [him])]
        simp
       refine ⟨ρ, { w with heap := w.heap.setIfInBounds (ρ b).blk (.map (ms.modify i fun e => { e with key := a.eval k, val := a.eval y }) clock) }, ?_, map_put hr hb' hh ⟨?_, ?_⟩⟩
       ·rw [ho]
        simp only [Instr.mapUpdate, Sem.run_bind, run_und hu, Result.andThen_ok, hv, hget, hc, q1, Instr.keyThatStays]
        simp [him, hsame, hset]
       ·rw [hmod]
        simpa using hve.1.setE h2 i
       ·rw [hmod]
        simpa using hve.2.setE h3 i
      ·cases h
     ·rename_i hfk
      cases h
      obtain ⟨r', q1, rfl⟩ := run_find hk hko h2 hve hfk w
      refine ⟨ρ, { w with heap := w.heap.setIfInBounds (ρ b).blk (.map (ms.push { key := a.eval k, val := a.eval y, born := clock }) (clock + 1)) }, ?_, map_put hr hb' hh ⟨?_, ?_⟩⟩
      ·rw [ho]
       simp only [Instr.mapUpdate, Sem.run_bind, run_und hu, Result.andThen_ok, hv, hget, hc, q1]
       simp [hset]
      ·simpa using hve.1.append (.cons h2 .nil)
      ·simpa using hve.2.append (.cons h3 .nil)
     ·cases h
    ·cases h
   ·cases h
  ·cases h
 ·simp only [aop] at h; (repeat' split at h) <;> cases h
 ·simp only [aop] at h; (repeat' split at h) <;> cases h
theorem pure_tAssert2 {xt t : TypeId} {d : TypeDesc} {z : Value} {x : Operand} (hx : okO N G x = true) (hu : P.underlying t = some d) (hd : ∀ m, d ≠ .interface m) (hz : zeroVal P t = some z) :
  PureOK P N G n ρ ⟨dst, .typeAssert x xt t true, ty, pos, after, guard⟩ (.tAssert2 t z x) := by
 intro e a H H' v hf h
 have h1 := hf.op hx
 obtain ⟨hzr, hzc⟩ := run_zeroVal hz
 have hzt : VR n ρ (.tuple #[z, .bool false]) (.tuple #[z, .bool false]) := VL.tuple (.cons (.of_closed hzc) (.cons (.bool _) .nil))
 simp only [aop] at h
 split at h
 ·rename_i u y hy
  rw [hy] at h1
  obtain ⟨y', hv, hr⟩ := h1.inv_iface
  split at h
  ·rename_i he
   cases h
   refine ⟨rfl, .tuple #[y', .bool true], VL.tuple (.cons hr (.cons (.bool _) .nil)), fun w => ?_⟩
   simp only [execOp, Instr.typeAssert, Sem.run_bind, run_und hu, Result.andThen_ok, hv]
   cases d <;> first
    | exact absurd rfl (hd _)
    | (simp only [if_pos he]; rfl)
  ·rename_i he
   cases h
   refine ⟨rfl, .tuple #[z, .bool false], hzt, fun w => ?_⟩
   simp only [execOp, Instr.typeAssert, Sem.run_bind, run_und hu, Result.andThen_ok, hv]
   cases d <;> first
    | exact absurd rfl (hd _)
    | (simp [if_neg he, hzr])
 ·rename_i hy
  rw [hy] at h1
  have hv := h1.inv_nilIface
  cases h
  refine ⟨rfl, .tuple #[z, .bool false], hzt, fun w => ?_⟩
  simp only [execOp, Instr.typeAssert, Sem.run_bind, run_und hu, Result.andThen_ok, hv]
  cases d <;> first
   | exact absurd rfl (hd _)
   | (simp [hzr])
 ·cases h
end
section
variable {P : Program} {N G n : Nat} {ρ : Nat → Place}
theorem prepMap_spec {t : TypeId} {f : KeyT → TypeId → Option AOp} {ao : AOp} (h : prepMap P t f = some ao) : ∃ key el kt, P.underlying t = some (.map key el) ∧ keyT P key = some kt ∧ f kt el = some ao := by
 unfold prepMap at h
 split at h
 ·rename_i key el hu
  split at h
  ·rename_i kt hk
   exact ⟨key, el, kt, hu, hk, h⟩
  ·cases h
 ·cases h
theorem op_ok {o : Oper} {ao : AOp} (h : prepOp P N G o.op = some ao) : OpOK P N G o ao := by
 obtain ⟨dst, op, ty, pos, after, guard⟩ := o
 unfold prepOp at h
 simp only at h
 split at h
 ·-- move
  rename_i x
  split at h
  ·cases h; exact OpOK.pure (fun e H => .inl ⟨_, _, rfl⟩) fun n ρ => pure_mov (by assumption) _ fun ev => rfl
  ·cases h
 ·-- assign
  split at h
  ·cases h; exact OpOK.pure (fun e H => .inl ⟨_, _, rfl⟩) fun n ρ => pure_mov (by assumption) _ fun ev => rfl
  ·cases h
 ·-- pick
  split at h
  ·rename_i hq
   cases h
   simp only [Bool.and_eq_true] at hq
   exact OpOK.pure (fun e H => by simp only [aop]; split <;> first | exact .inr rfl | exact .inl ⟨_, _, rfl⟩) fun n ρ => pure_pick hq.1.1 hq.1.2 hq.2
  ·cases h
 ·-- alloc
  obtain ⟨z, hz, rfl⟩ := Option.map_eq_some_iff.1 h
  exact OpOK.heap (heap_alloc hz) (.inl rfl)
 ·-- box
  split at h
  ·cases h; exact OpOK.heap (heap_box (by assumption)) (.inl rfl)
  ·cases h
 ·-- build
  rename_i t parts
  have hp : prepOp P N G (.build t parts) = some ao := by unfold prepOp; exact h
  refine OpOK.pure ?_ fun n ρ => pure_build hp
  split at h
  ·split at h
   ·obtain ⟨ps, _, rfl⟩ := Option.map_eq_some_iff.1 h
    exact fun e H => by simp only [aop]; split <;> first | exact .inr rfl | exact .inl ⟨_, _, rfl⟩
   ·cases h
  ·split at h
   ·obtain ⟨ps, _, rfl⟩ := Option.map_eq_some_iff.1 h
    exact fun e H => by simp only [aop]; split <;> first | exact .inr rfl | exact .inl ⟨_, _, rfl⟩
   ·cases h
  ·cases h
 ·-- buildSlice
  rename_i t len parts
  split at h
  ·rename_i el hu
   split at h
   ·rename_i s z hs hz
    split at h
    ·rename_i hc
     obtain ⟨ps, hps, rfl⟩ := Option.map_eq_some_iff.1 h
     exact OpOK.heap (heap_buildSlice hu hs hz hc.1 hc.2.2.2 (.inr hc.2.1) rfl hps) (.inl rfl)
    ·split at h
     ·rename_i hc
      obtain ⟨ps, hps, rfl⟩ := Option.map_eq_some_iff.1 h
      obtain ⟨h0, rfl⟩ := hc
      exact OpOK.heap (heap_buildSlice hu hs hz h0 (by omega) (.inl rfl) rfl hps) (.inl rfl)
     ·cases h
   ·cases h
  ·cases h
 ·-- load
  rename_i t x
  split at h
  ·rename_i hx
   split at h
   ·rename_i m ha hs
    cases h; exact OpOK.heap (heap_loadN hx ha hs) (.inr ⟨rfl, fun e H => by simp only [aop]; (repeat' split) <;> first | exact .inr rfl | exact .inl ⟨_, _, rfl⟩⟩)
   ·rename_i ha
    cases h; exact OpOK.heap (heap_load1 hx ha) (.inr ⟨rfl, fun e H => by simp only [aop]; (repeat' split) <;> first | exact .inr rfl | exact ofO_shape _ _⟩)
   ·cases h
  ·cases h
 ·-- store
  split at h
  ·rename_i hq
   simp only [Bool.and_eq_true] at hq
   obtain ⟨m, hm, rfl⟩ := Option.map_eq_some_iff.1 h
   exact OpOK.heap (heap_store hq.1 hq.2 hm) (.inl rfl)
  ·cases h
 ·-- nilCheck
  split at h
  ·cases h
   exact OpOK.pure (fun e H => by simp only [aop]; split <;> first | exact .inr rfl | exact .inl ⟨_, _, rfl⟩) fun n ρ => pure_nilChk (by assumption)
  ·cases h
 ·-- binOp
  split at h
  ·rename_i hq
   simp only [Bool.and_eq_true] at hq
   exact bin_ok hq.1 hq.2 h
  ·cases h
 ·-- unOp
  split at h
  ·cases h
   exact OpOK.pure (fun e H => by simp only [aop]; split <;> first | exact .inr rfl | exact ofO_shape _ _ | exact .inl ⟨_, _, rfl⟩) fun n ρ => pure_un (by assumption)
  ·cases h
 ·-- convert
  rename_i s d x
  split at h
  ·rename_i hx
   split at h
   ·rename_i j k hs hd
    cases h
    exact OpOK.pure (fun e H => by simp only [aop]; split <;> first | exact .inr rfl | exact .inl ⟨_, _, rfl⟩) fun n ρ => pure_conv hx hs hd
   ·rename_i hs hd
    cases h
    exact OpOK.pure (fun e H => by simp only [aop]; split <;> first | exact .inr rfl | exact .inl ⟨_, _, rfl⟩) fun n ρ => pure_convId hx hs hd
   ·rename_i el hs hd
    split at h
    ·rename_i hel
     cases h
     exact OpOK.heap (heap_s2b hx hs hd hel) (.inl (by simp [stillOp, hs, hd]))
    ·cases h
   ·rename_i el hs hd
    split at h
    ·rename_i hel
     cases h
     exact OpOK.heap (heap_b2s hx hs hd hel) (.inl (by simp [stillOp, hs, hd]))
    ·cases h
   ·cases h
  ·cases h
 ·-- makeInterface
  split at h
  ·rename_i hx
   split at h
   ·cases h
   ·rename_i d hn hu
    cases h
    exact OpOK.pure (fun e H => .inl ⟨_, _, rfl⟩) fun n ρ => pure_mkIface hx hu fun m e => hn m e
   ·cases h
  ·cases h
 ·-- makeFunc
  split at h
  ·rename_i hq
   simp only [Bool.and_eq_true] at hq
   cases h
   exact OpOK.pure (fun e H => .inl ⟨_, _, rfl⟩) fun n ρ => pure_mkFunc hq.1 hq.2
  ·cases h
 ·-- makeSlice
  split at h
  ·rename_i hq
   simp only [Bool.and_eq_true] at hq
   split at h
   ·rename_i el hu
    split at h
    ·rename_i s b z hs hb hz
     split at h
     ·rename_i hc
      cases h
      exact OpOK.heap (heap_mkSlice hq.1 hq.2 hu hs hb hz hc.1 hc.2) (.inl rfl)
     ·cases h
    ·cases h
   ·cases h
  ·cases h
 ·-- slice
  split at h
  ·rename_i hq
   simp only [Bool.and_eq_true] at hq
   split at h
   ·rename_i hu
    cases h
    exact OpOK.pure (fun e H => by simp only [aop]; (repeat' split) <;> first | exact .inr rfl | exact .inl ⟨_, _, rfl⟩) fun n ρ => pure_slStr hq.1.1 hq.1.2 hq.2 hu
   ·rename_i el hu
    obtain ⟨s, hs, rfl⟩ := Option.map_eq_some_iff.1 h
    exact OpOK.pure (fun e H => by simp only [aop]; (repeat' split) <;> first | exact .inr rfl | exact .inl ⟨_, _, rfl⟩) fun n ρ => pure_slSl hq.1.1 hq.1.2 hq.2 hu hs
   ·rename_i m el hu
    obtain ⟨s, hs, rfl⟩ := Option.map_eq_some_iff.1 h
    exact OpOK.pure (fun e H => by simp only [aop]; (repeat' split) <;> first | exact .inr rfl | exact .inl ⟨_, _, rfl⟩) fun n ρ => pure_slArr hq.1.1 hq.1.2 hq.2 hs (.inl hu)
   ·rename_i t' hu
    split at h
    ·rename_i m el hu'
     obtain ⟨s, hs, rfl⟩ := Option.map_eq_some_iff.1 h
     exact OpOK.pure (fun e H => by simp only [aop]; (repeat' split) <;> first | exact .inr rfl | exact .inl ⟨_, _, rfl⟩) fun n ρ => pure_slArr hq.1.1 hq.1.2 hq.2 hs (.inr ⟨t', hu, hu'⟩)
    ·cases h
   ·cases h
  ·cases h
 ·-- fieldAddr
  split at h
  ·rename_i hx
   split at h
   ·rename_i fs hu
    split at h
    ·rename_i f hf
     split at h
     ·rename_i k hk
      cases h
      exact OpOK.pure (fun e H => by simp only [aop]; split <;> first | exact .inr rfl | exact .inl ⟨_, _, rfl⟩) fun n ρ => pure_fAddr hx hu hf hk
     ·cases h
    ·cases h
   ·cases h
  ·cases h
 ·-- field
  split at h
  ·rename_i hx
   split at h
   ·rename_i fs hu
    split at h
    ·rename_i f hf
     split at h
     ·rename_i m ha hs
      cases h
      exact OpOK.pure (fun e H => by simp only [aop]; (repeat' split) <;> first | exact .inr rfl | exact .inl ⟨_, _, rfl⟩) fun n ρ => pure_fieldN hx hu hf ha hs
     ·rename_i ha
      cases h
      exact OpOK.pure (fun e H => by simp only [aop]; split <;> first | exact .inr rfl | exact ofO_shape _ _) fun n ρ => pure_field1 hx hu hf ha
     ·cases h
    ·cases h
   ·cases h
  ·cases h
 ·-- indexAddr
  split at h
  ·rename_i hq
   simp only [Bool.and_eq_true] at hq
   split at h
   ·rename_i m el hu
    obtain ⟨s, hs, rfl⟩ := Option.map_eq_some_iff.1 h
    exact OpOK.pure (fun e H => by simp only [aop]; (repeat' split) <;> first | exact .inr rfl | exact .inl ⟨_, _, rfl⟩) fun n ρ => pure_iAddrArr hq.1 hq.2 hu hs
   ·rename_i el hu
    obtain ⟨s, hs, rfl⟩ := Option.map_eq_some_iff.1 h
    exact OpOK.pure (fun e H => by simp only [aop]; (repeat' split) <;> first | exact .inr rfl | exact .inl ⟨_, _, rfl⟩) fun n ρ => pure_iAddrSl hq.1 hq.2 hu hs
   ·cases h
  ·cases h
 ·-- index
  split at h
  ·rename_i hq
   simp only [Bool.and_eq_true] at hq
   split at h
   ·rename_i hu
    cases h
    exact OpOK.pure (fun e H => by simp only [aop]; (repeat' split) <;> first | exact .inr rfl | exact ofO_shape _ _) fun n ρ => pure_idxStr hq.1 hq.2 hu
   ·rename_i m el hu
    split at h
    ·rename_i s ha hs
     cases h
     exact OpOK.pure (fun e H => by simp only [aop]; (repeat' split) <;> first | exact .inr rfl | exact .inl ⟨_, _, rfl⟩) fun n ρ => pure_idxArrN hq.1 hq.2 hu ha hs
    ·rename_i ha hs
     cases h
     exact OpOK.pure (fun e H => by simp only [aop]; (repeat' split) <;> first | exact .inr rfl | exact ofO_shape _ _) fun n ρ => pure_idxArr1 hq.1 hq.2 hu ha hs
    ·cases h
   ·cases h
  ·cases h
 ·-- range
  split at h
  ·rename_i hx
   split at h
   ·rename_i hu
    cases h
    exact OpOK.heap (heap_rng hx hu) (.inl rfl)
   ·cases h
  ·cases h
 ·-- next
  split at h
  ·cases h; exact OpOK.heap (heap_nxt (by assumption)) (.inl rfl)
  ·cases h
 ·-- extract
  split at h
  ·cases h
   exact OpOK.pure (fun e H => by simp only [aop]; split <;> first | exact .inr rfl | exact ofO_shape _ _) fun n ρ => pure_extract (by assumption)
  ·cases h
 ·-- typeAssert
  split at h
  ·rename_i hx
   split at h
   ·cases h
   ·rename_i d hn hu
    cases h
    exact OpOK.pure (fun e H => by simp only [aop]; (repeat' split) <;> first | exact .inr rfl | exact .inl ⟨_, _, rfl⟩) fun n ρ => pure_tAssert hx hu fun m e => hn m e
   ·cases h
  ·cases h
 ·exact call_ok h
 ·-- panic
  split at h
  ·cases h
   exact OpOK.heap (heap_panic (by assumption) fun a w => rfl) (.inl rfl)
  ·cases h
 ·-- makeMap
  cases h
  exact OpOK.heap heap_mkMap (.inl rfl)
 ·-- lookup
  split at h
  ·rename_i hq
   simp only [Bool.and_eq_true] at hq
   obtain ⟨key, el, kt, hu, hk, h⟩ := prepMap_spec h
   obtain ⟨z, hz, rfl⟩ := Option.map_eq_some_iff.1 h
   exact OpOK.heap (heap_lookup hq.1 hq.2 hu hk hz) (.inl rfl)
  ·cases h
 ·-- mapUpdate
  split at h
  ·rename_i hq
   simp only [Bool.and_eq_true] at hq
   obtain ⟨key, el, kt, hu, hk, h⟩ := prepMap_spec h
   cases h
   exact OpOK.heap (heap_mapUpd hq.1.1 hq.1.2 hq.2 hu hk fun ev => rfl) (.inl rfl)
  ·cases h
 ·-- insert
  split at h
  ·rename_i hq
   simp only [Bool.and_eq_true] at hq
   obtain ⟨key, el, kt, hu, hk, h⟩ := prepMap_spec h
   cases h
   exact OpOK.heap (heap_mapUpd hq.1.1 hq.1.2 hq.2 hu hk fun ev => rfl) (.inl rfl)
  ·cases h
 ·-- typeAssert, told whether it holds
  split at h
  ·rename_i hx
   split at h
   ·cases h
   ·rename_i d hn hu
    obtain ⟨z, hz, rfl⟩ := Option.map_eq_some_iff.1 h
    exact OpOK.pure (fun e H => by simp only [aop]; (repeat' split) <;> first | exact .inr rfl | exact .inl ⟨_, _, rfl⟩) fun n ρ => pure_tAssert2 hx hu (fun m e => hn m e) hz
   ·cases h
  ·cases h
 ·cases h
end
section
variable {P : Program}
/-- A run that writes no block that is there. -/
def Mild (P : Program) {α : Type} : Sem α → Prop
 | .pure _ => True
 | .load _ _ k => ∀ v, Mild P (k v)
 | .store _ _ _ _ => False
 | .new _ k => ∀ r, Mild P (k r)
 | .shape _ k => ∀ x, Mild P (k x)
 | .freeze _ _ _ => False
 | .frozen _ k => ∀ b, Mild P (k b)
 | .getObj _ k => ∀ o, Mild P (k o)
 | .setObj _ _ _ => False
 | .choose _ k => ∀ n, Mild P (k n)
 | .sys _ _ => False
 | .program k => Mild P (k P)
 | .mark _ k => Mild P k
 | .halt _ => True
theorem Mild.run {α : Type} {s : Sem α} (h : Mild P s) : ∀ {w w' : World} {x : α}, s.run P w = .ok x w' → ∀ (b : Nat) (o : Obj), w.heap[b]? = some o → w'.heap[b]? = some o := by
 induction s with
 | pure a => intro w w' x hr b o hb; simp only [Sem.run] at hr; cases hr; exact hb
 | load m a k ih =>
  intro w w' x hr b o hb
  simp only [Sem.run] at hr
  split at hr
  ·exact ih _ (h _) hr b o hb
  ·split at hr
   ·exact ih _ (h _) hr b o hb
   ·cases hr
 | store m a v k ih => exact h.elim
 | new o k ih =>
  intro w w' x hr b o' hb
  simp only [Sem.run] at hr
  refine ih _ (h _) hr b o' ?_
  have : b < w.heap.size := (Array.getElem?_eq_some_iff.1 hb).1
  simp only [Array.getElem?_push]
  rw [if_neg (by omega)]
  exact hb
 | shape r k ih => intro w w' x hr; simp only [Sem.run] at hr; exact ih _ (h _) hr
 | freeze a n k ih => exact h.elim
 | frozen a k ih => intro w w' x hr; simp only [Sem.run] at hr; exact ih _ (h _) hr
 | getObj r k ih =>
  intro w w' x hr
  simp only [Sem.run] at hr
  split at hr
  ·cases hr
  ·exact ih _ (h _) hr
  ·cases hr
 | setObj r o k ih => exact h.elim
 | choose q k ih =>
  intro w w' x hr
  simp only [Sem.run] at hr
  split at hr
  ·exact ih _ (h _) hr
  ·exact fun b o hb => ih _ (h _) hr b o hb
 | sys c k ih => exact h.elim
 | program k ih => intro w w' x hr; simp only [Sem.run] at hr; exact ih _ h hr
 | mark m k ih => intro w w' x hr; simp only [Sem.run] at hr; exact ih h hr
 | halt e => intro w w' x hr; simp only [Sem.run] at hr; cases hr
theorem Mild.bind' {α β : Type} {s : Sem α} {f : α → Sem β} (h : Mild P s) (k : ∀ x, Mild P (f x)) : Mild P (s.bind f) := by
 induction s with
 | pure a => exact k a
 | load m a g ih => exact fun v => ih v (h v)
 | store m a v g ih => exact h.elim
 | new o g ih => exact fun v => ih v (h v)
 | shape r g ih => exact fun v => ih v (h v)
 | freeze a n g ih => exact h.elim
 | frozen a g ih => exact fun v => ih v (h v)
 | getObj r g ih => exact fun v => ih v (h v)
 | setObj r o g ih => exact h.elim
 | choose q g ih => exact fun v => ih v (h v)
 | sys c g ih => exact h.elim
 | program g ih => exact ih P h
 | mark m g ih => exact ih h
 | halt e => trivial
theorem Mild.bind {α β : Type} {s : Sem α} {f : α → Sem β} (h : Mild P s) (k : ∀ x, Mild P (f x)) : Mild P (s >>= f) := Mild.bind' h k
theorem Mild.ite {α : Type} {c : Prop} [Decidable c] {x y : Sem α} (h : Mild P x) (k : Mild P y) : Mild P (if c then x else y) := by split <;> assumption
theorem Mild.pure {α : Type} (x : α) : Mild P (Pure.pure x : Sem α) := trivial
theorem Mild.map {α β : Type} {s : Sem α} (f : α → β) (h : Mild P s) : Mild P (f <$> s) := Mild.bind' h fun _ => trivial
theorem Mild.stuck {α : Type} (s : String) : Mild P (Go.stuck s : Sem α) := trivial
theorem Mild.unsup {α : Type} (u : Unsupported) : Mild P (unsupported u : Sem α) := trivial
theorem Mild.program : Mild P Go.program := trivial
theorem Mild.choose (q : Question) : Mild P (Go.choose q) := fun _ => trivial
theorem Mild.load (a : Addr) (m : Mode) : Mild P (Go.load a m) := fun _ => trivial
theorem Mild.new (o : Obj) : Mild P (newObj o) := fun _ => trivial
theorem Mild.shape (r : Nat) : Mild P (Go.shape r) := fun _ => trivial
theorem Mild.frozen (a : Addr) : Mild P (Go.frozen a) := fun _ => trivial
theorem Mild.getObj (r : Nat) : Mild P (Go.getObj r) := fun _ => trivial
theorem Mild.info (t : TypeId) : Mild P (typeInfo t) := by refine .bind .program fun p => ?_; split <;> trivial
theorem Mild.und (t : TypeId) : Mild P (underlying t) := by refine .bind .program fun p => ?_; split <;> trivial
theorem Mild.size (t : TypeId) : Mild P (sizeOf t) := .bind (.info t) fun _ => trivial
theorem Mild.zero (t : TypeId) : Mild P (zeroValue t) := by refine .bind (.info t) fun i => ?_; split <;> trivial
theorem Mild.agg (t : TypeId) : Mild P (isAgg t) := by refine .bind (.und t) fun d => ?_; split <;> trivial
theorem Mild.elemOf (t : TypeId) : Mild P (Go.elemOf t) := by refine .bind (.und _) fun d => ?_; split <;> trivial
theorem Mild.rt {α : Type} (e : RuntimeError) : Mild P (runtimePanic e : Sem α) := by
 refine .bind .program fun p => ?_
 cases e <;> first
  | trivial
  | exact .bind (.elemOf _) fun t => .bind (.bind (.new _) fun _ => trivial) fun _ => trivial
theorem Mild.bounds {α : Type} (k : IntKind) (x y : Int) (c : BoundsCode) : Mild P (boundsPanic k x y c : Sem α) := by
 unfold boundsPanic
 split
 ·exact .bind (.map _ (.choose _)) fun _ => .rt _
 ·exact .bind (.pure _) fun _ => .rt _
theorem Mild.intOf (v : Value) : Mild P (asIntOf v) := by unfold asIntOf; split <;> trivial
theorem Mild.int (v : Value) : Mild P (asInt v) := .bind (.intOf v) fun _ => trivial
theorem Mild.bool (v : Value) : Mild P (asBool v) := by unfold asBool; split <;> trivial
theorem Mild.asAgg (v : Value) : Mild P (Go.asAgg v) := by unfold Go.asAgg; split <;> trivial
theorem Mild.asAddr (v : Value) : Mild P (Go.asAddr v) := by unfold Go.asAddr; split <;> first | trivial | exact .rt _
theorem Mild.sure (v : Value) : Mild P (Instr.sureAddr v) := by unfold Instr.sureAddr; split <;> trivial
theorem Mild.part (t : TypeId) (cs : Array Value) (o : Nat) : Mild P (Go.part t cs o) := by
 refine .bind (.agg t) fun b => ?_
 split
 ·exact .bind (.size t) fun _ => trivial
 ·split <;> trivial
theorem Mild.cellsFrom (a : Addr) : ∀ (n i : Nat) (acc : Array Value), Mild P (loadCellsFrom a i n acc)
 | 0, _, _ => trivial
 | n + 1, i, acc => .bind (.load _ _) fun v => Mild.cellsFrom a n (i + 1) (acc.push v)
theorem Mild.loadVar (t : TypeId) (a : Addr) : Mild P (Go.loadVar t a) := by
 refine .bind (.agg t) fun b => ?_
 split
 ·exact .bind (.size t) fun n => .bind (Mild.cellsFrom a n 0 #[]) fun _ => trivial
 ·exact .load _ _
theorem Mild.sliceBound (x : Value) (y : Nat) (c : BoundsCode) : Mild P (Instr.sliceBound x y c) := by
 refine .bind (.intOf x) fun p => ?_
 split
 exact .ite trivial (.bounds _ _ _ _)
theorem Mild.sliceBounds (b : Bool) (l c : Nat) (lo hi : Option Value) : Mild P (Instr.sliceBounds b l c lo hi none) := by
 unfold Instr.sliceBounds
 refine .bind (.pure _) fun m => ?_
 have tail : ∀ h, Mild P (do
   let l ← match lo with
    | some v => Instr.sliceBound v h (if (none : Option Value).isSome = true then BoundsCode.slice3C else BoundsCode.sliceB)
    | none => Pure.pure 0
   Pure.pure (l, h, m) : Sem (Nat × Nat × Nat)) := fun h => by
  cases lo with
  | none => trivial
  | some v => exact .bind (.sliceBound _ _ _) fun _ => trivial
 cases hi with
 | none => exact .bind (.pure _) tail
 | some v => exact .bind (.sliceBound _ _ _) tail
theorem Mild.mapM {α β : Type} {f : α → Sem β} (h : ∀ x, Mild P (f x)) : ∀ l : List α, Mild P (l.mapM f)
 | [] => by simp only [List.mapM_nil]; trivial
 | x :: l => by
  rw [List.mapM_cons]
  exact .bind (h x) fun y => .bind (Mild.mapM h l) fun _ => trivial
theorem Mild.mapMA {α β : Type} {f : α → Sem β} (h : ∀ x, Mild P (f x)) (l : Array α) : Mild P (l.mapM f) := by
 rw [Array.mapM_eq_mapM_toList]
 exact .map _ (Mild.mapM h l.toList)
theorem Mild.intArith (op : BinOp) (k : IntKind) (x y : Int) : Mild P (Op.intArith op k x y) := by unfold Op.intArith; split <;> trivial
theorem Mild.intBits (op : BinOp) (k : IntKind) (x y : Int) : Mild P (Op.intBits op k x y) := by unfold Op.intBits; dsimp only; split <;> trivial
theorem Mild.intCmp (op : BinOp) (x y : Int) : Mild P (Op.intCmp op x y) := by unfold Op.intCmp; split <;> trivial
theorem Mild.intDiv (op : BinOp) (k : IntKind) (x y : Int) : Mild P (Op.intDiv op k x y) := by
 unfold Op.intDiv; refine .ite (.rt _) ?_; split <;> trivial
theorem Mild.shift (op : BinOp) (k : IntKind) (x : Int) (yk : IntKind) (y : Int) : Mild P (Op.shift op k x yk y) := by
 unfold Op.shift; refine .ite (.rt _) ?_; dsimp only; split <;> trivial
theorem Mild.stringOp (op : BinOp) (x y : ByteArray) : Mild P (Op.stringOp op x y) := by
 unfold Op.stringOp; dsimp only; split <;> first | trivial | exact .ite trivial trivial
theorem Mild.floatCmp (op : BinOp) (k : FloatKind) (x y : Nat) : Mild P (Op.floatCmp op k x y) := by
 unfold Op.floatCmp; dsimp only; split <;> trivial
theorem Mild.floatArith (op : BinOp) (k : FloatKind) (x y : Nat) : Mild P (Op.floatArith op k x y) := by
 have tail : ∀ r : Option Nat, Mild P (match r with
   | some r => Pure.pure (.float k r)
   | none => do Pure.pure (.float k (← Go.choose (.nanBits k x y))) : Sem Value) := fun r => by
  split
  ·trivial
  ·exact .bind (.choose _) fun _ => trivial
 unfold Op.floatArith
 split <;> first | exact .bind (.pure _) tail | exact .bind (.stuck _) tail
/-- One step of the road: for the texts below. -/
theorem Mild.viewAt (r : Nat) : Mild P (Go.viewAt r) := by
 refine .bind (.shape r) fun s => ?_
 refine .ite trivial ?_
 refine .bind (.getObj r) fun o => ?_
 split <;> trivial
theorem Mild.noView (a : Addr) : Mild P (Go.noView a) := by
 refine .bind (.viewAt _) fun s => ?_
 exact .ite trivial trivial
theorem Mild.numberAt (r : Nat) : Mild P (Go.numberAt r) := by
 refine .bind (.shape r) fun s => ?_
 refine .ite trivial ?_
 refine .bind (.getObj r) fun o => ?_
 split <;> trivial
theorem Mild.behind (a : Addr) : Mild P (behindNumber a) := .bind (.numberAt _) fun _ => trivial
theorem Mild.asNumber (a : Addr) (l : Bool) : Mild P (Go.asNumber a l) := .bind (.new _) fun _ => trivial
theorem Mild.byteOf (a : Addr) : Mild P (Go.byteOf a) := by
 unfold Go.byteOf
 split
 ·trivial
 ·refine .bind .program fun p => .bind (.noView a) fun _ => .bind (.shape _) fun s => ?_
  split
  ·refine .ite trivial ?_
   split <;> trivial
  ·trivial
theorem Mild.twoPlaces (a b : Addr) : Mild P (Op.twoPlaces a b) := by
 unfold Op.twoPlaces
 repeat' (first
  | trivial
  | exact Mild.floatArith _ _ _ _
  | exact Mild.floatCmp _ _ _ _
  | exact Mild.intOf _
  | exact Mild.int _
  | exact Mild.bool _
  | exact Mild.byteOf _
  | exact Mild.und _
  | exact Mild.info _
  | exact Mild.size _
  | exact Mild.noView _
  | exact Mild.viewAt _
  | exact Mild.numberAt _
  | exact Mild.behind _
  | exact Mild.asNumber _ _
  | exact Mild.choose _
  | exact Mild.shape _
  | exact Mild.frozen _
  | refine Mild.bind ?_ fun _ => ?_
  | refine Mild.ite ?_ ?_
  | split)
theorem Mild.addrSub (k : IntKind) (a b : Addr) : Mild P (Op.addrSub k a b) := .bind (.twoPlaces a b) fun _ => trivial
theorem Mild.addrCmp (op : BinOp) (a b : Addr) : Mild P (Op.addrCmp op a b) := by
 refine .bind (.twoPlaces a b) fun p => ?_
 split
 split <;> trivial
theorem Mild.addrMod (k : IntKind) (a : Addr) (n : Int) : Mild P (Op.addrMod k a n) := by
 unfold Op.addrMod
 repeat' (first
  | trivial
  | exact Mild.floatArith _ _ _ _
  | exact Mild.floatCmp _ _ _ _
  | exact Mild.intOf _
  | exact Mild.int _
  | exact Mild.bool _
  | exact Mild.byteOf _
  | exact Mild.und _
  | exact Mild.info _
  | exact Mild.size _
  | exact Mild.noView _
  | exact Mild.viewAt _
  | exact Mild.numberAt _
  | exact Mild.behind _
  | exact Mild.asNumber _ _
  | exact Mild.choose _
  | exact Mild.shape _
  | exact Mild.frozen _
  | refine Mild.bind ?_ fun _ => ?_
  | refine Mild.ite ?_ ?_
  | split)
theorem Mild.floatToFloat (s : FloatKind) (x : Nat) (d : FloatKind) : Mild P (Conv.floatToFloat s x d) := by
 unfold Conv.floatToFloat
 repeat' (first
  | trivial
  | exact Mild.floatArith _ _ _ _
  | exact Mild.floatCmp _ _ _ _
  | exact Mild.intOf _
  | exact Mild.int _
  | exact Mild.bool _
  | exact Mild.byteOf _
  | exact Mild.und _
  | exact Mild.info _
  | exact Mild.size _
  | exact Mild.noView _
  | exact Mild.viewAt _
  | exact Mild.numberAt _
  | exact Mild.behind _
  | exact Mild.asNumber _ _
  | exact Mild.choose _
  | exact Mild.shape _
  | exact Mild.frozen _
  | refine Mild.bind ?_ fun _ => ?_
  | refine Mild.ite ?_ ?_
  | split)
theorem Mild.unsafeAdd (u : Array TypeId) (t : TypeId) (xs : Array Value) : Mild P (Builtin.unsafeAdd_ u t xs) := by
 obtain ⟨l⟩ := xs
 rcases l with _ | ⟨x, _ | ⟨y, _ | ⟨z, l⟩⟩⟩
 ·trivial
 ·cases x <;> trivial
 ·cases x <;> first | trivial | skip
  rename_i ptr
  refine .bind (.int y) fun n => ?_
  dsimp only
  repeat' (first
   | trivial
   | exact Mild.floatArith _ _ _ _
   | exact Mild.floatCmp _ _ _ _
   | exact Mild.intOf _
   | exact Mild.int _
   | exact Mild.bool _
   | exact Mild.byteOf _
   | exact Mild.und _
   | exact Mild.info _
   | exact Mild.size _
   | exact Mild.noView _
   | exact Mild.viewAt _
   | exact Mild.numberAt _
   | exact Mild.behind _
   | exact Mild.asNumber _ _
   | exact Mild.choose _
   | exact Mild.shape _
   | exact Mild.frozen _
   | refine Mild.bind ?_ fun _ => ?_
   | refine Mild.ite ?_ ?_
   | split)
 ·cases x <;> trivial
end
section
variable {P : Program}
theorem Mild.carith (op : BinOp) (k : FloatKind) (x y : Nat) : Mild P (Op.Complex.arith op k x y) := by
 refine .bind (.floatArith _ _ _ _) fun v => ?_
 split <;> trivial
theorem Mild.ccmp (op : BinOp) (k : FloatKind) (x y : Nat) : Mild P (Op.Complex.cmp op k x y) := .bind (.floatCmp _ _ _ _) fun _ => .bool _
theorem Mild.cconv (k : FloatKind) (x : Nat) (d : FloatKind) : Mild P (Op.Complex.conv k x d) := by
 refine .ite trivial (.bind (.floatToFloat _ _ _) fun v => ?_)
 split <;> trivial
theorem Mild.product (a b c d : Nat) : Mild P (Op.Complex.product a b c d) := by
 unfold Op.Complex.product Op.Complex.sub Op.Complex.add Op.Complex.mul
 repeat' (first | exact Mild.pure _ | exact Mild.stuck _ | exact Mild.carith _ _ _ _ | refine Mild.bind ?_ fun _ => ?_)
theorem Mild.corrected (s a b c d : Nat) : Mild P (Op.Complex.corrected s a b c d) := by
 unfold Op.Complex.corrected Op.Complex.sub Op.Complex.add Op.Complex.mul
 repeat' (first | exact Mild.pure _ | exact Mild.stuck _ | exact Mild.carith _ _ _ _ | refine Mild.bind ?_ fun _ => ?_)
theorem Mild.quotient (a b c d : Nat) : Mild P (Op.Complex.quotient a b c d) := by
 unfold Op.Complex.quotient Op.Complex.sub Op.Complex.add Op.Complex.mul Op.Complex.quo
 repeat' (first
  | with_reducible (first | exact Mild.pure _ | exact Mild.carith _ _ _ _ | exact Mild.ccmp _ _ _ _ | exact Mild.corrected _ _ _ _ _ | refine Mild.bind ?_ fun _ => ?_ | refine Mild.ite ?_ ?_)
  | split)
theorem Mild.complexOp (op : BinOp) (k : FloatKind) (a b c d : Nat) : Mild P (Op.complexOp op k a b c d) := by
 unfold Op.complexOp
 repeat' (first
  | with_reducible (first | exact Mild.pure _ | exact Mild.stuck _ | exact Mild.carith _ _ _ _ | exact Mild.ccmp _ _ _ _ | exact Mild.cconv _ _ _ | exact Mild.product _ _ _ _ | exact Mild.quotient _ _ _ _ | refine Mild.bind ?_ fun _ => ?_ | refine Mild.ite ?_ ?_)
  | split)
def Prim (P : Program) (t : TypeId) : Prop := P.underlying t = some .bool ∨ (∃ k, P.underlying t = some (.int k)) ∨ P.underlying t = some .string
theorem Mild.und_bind {t : TypeId} {d : TypeDesc} {β : Type} {f : TypeDesc → Sem β} (h : P.underlying t = some d) (k : Mild P (f d)) : Mild P (underlying t >>= f) := by
 show Mild P (Sem.bind (match P.underlying t with | some d => Sem.pure d | none => Go.stuck "no such type") f)
 rw [h]
 exact k
theorem Mild.eqGuardIn (d : Nat) {t : TypeId} (h : Prim P t) (a b : Value) : Mild P (Op.eqGuardIn (d + 1) t a b) := by
 unfold Op.eqGuardIn
 rcases h with h | ⟨k, h⟩ | h <;> exact .und_bind h trivial
theorem Mild.eqGuard {op : BinOp} {t : TypeId} {x y : Operand} {u v : Value} (h : Prim P t) : Mild P (Go.eqGuard op t x y u v) := by
 unfold Go.eqGuard
 refine .ite trivial ?_
 split
 ·exact .ite trivial (.bind (.eqGuardIn 9999 h _ _) fun r => .ite trivial trivial)
 ·refine .bind .program fun p => .bind .program fun q => ?_
  exact .ite trivial (.bind (.eqGuardIn 9999 h _ _) fun r => .ite trivial trivial)
 ·trivial
theorem Mild.equalIn (d : Nat) {t : TypeId} (h : Prim P t) (x y : Value) : Mild P (Op.equalIn (d + 1) t x y) := by
 unfold Op.equalIn
 rcases h with h | ⟨k, h⟩ | h
 ·refine .und_bind h ?_
  cases x <;> cases y <;> trivial
 ·refine .und_bind h ?_
  cases x <;> cases y <;> first | trivial | skip
  all_goals
   dsimp only
   repeat' (first | trivial | exact Mild.behind _ | exact Mild.byteOf _ | exact Mild.info _ | exact Mild.program | refine Mild.bind ?_ fun _ => ?_ | refine Mild.ite ?_ ?_ | split)
 ·refine .und_bind h ?_
  cases x <;> cases y <;> trivial
theorem Mild.movedPointer (t : TypeId) (x y : Value) : Mild P (Go.movedPointer t x y) := by
 unfold Go.movedPointer
 repeat' (first | trivial | exact Mild.unsafeAdd _ _ _ | exact Mild.numberAt _ | refine Mild.bind ?_ fun _ => ?_ | refine Mild.ite ?_ ?_ | split)
theorem Mild.movedNumber (t : TypeId) (x y : Value) : Mild P (Go.movedNumber t x y) := by
 unfold Go.movedNumber
 repeat' (first | trivial | exact Mild.unsafeAdd _ _ _ | exact Mild.und _ | exact Mild.behind _ | exact Mild.asNumber _ _ | refine Mild.bind ?_ fun _ => ?_ | refine Mild.ite ?_ ?_ | split)
theorem Mild.binOp {op : BinOp} {t : TypeId} (h : Prim P t) (x y : Value) : Mild P (Go.binOp op t x y) := by
 unfold Go.binOp
 split
 all_goals first
  | trivial
  | exact .shift _ _ _ _ _
  | exact .stringOp _ _ _
  | exact .bind (.equalIn 9999 h _ _) fun _ => trivial
  | exact .movedNumber _ _ _
  | exact .bind (.und _) fun _ => by split <;> first | exact .movedPointer _ _ _ | exact .movedNumber _ _ _
  | exact .bind (.behind _) fun _ => .bind (.behind _) fun _ => .addrSub _ _ _
  | exact .bind (.behind _) fun _ => .bind (.behind _) fun _ => .addrCmp _ _ _
  | exact .bind (.behind _) fun _ => .addrMod _ _ _
  | (refine .ite trivial ?_; split <;> first | exact .intArith _ _ _ _ | exact .intDiv _ _ _ _ | exact .intBits _ _ _ _ | exact .intCmp _ _ _ | exact .floatArith _ _ _ _ | exact .floatCmp _ _ _ _ | exact .complexOp _ _ _ _ _ _)
  | (refine .ite trivial ?_; exact .complexOp _ _ _ _ _ _)
/-- A run that answers a value and writes no block that is there. -/
def Tame (P : Program) (s : Sem Next) : Prop := ∀ (w : World) (x : Next) (w' : World), s.run P w = .ok x w' → (∃ v, x = .value v) ∧ ∀ (b : Nat) (o : Obj), w.heap[b]? = some o → w'.heap[b]? = some o
theorem Tame.of {s : Sem Value} (h : Mild P s) : Tame P (do pure (.value (← s))) := by
 intro w x w' hr
 simp only [Sem.run_bind] at hr
 cases hs : s.run P w with
 | ok a w1 =>
  rw [hs] at hr
  simp only [Result.andThen_ok, Sem.run_pure] at hr
  cases hr
  exact ⟨⟨_, rfl⟩, h.run hs⟩
 | halt e w1 => rw [hs] at hr; cases hr
theorem Tame.bind {α : Type} {s : Sem α} {f : α → Sem Next} (h : Mild P s) (k : ∀ a, Tame P (f a)) : Tame P (s >>= f) := by
 intro w x w' hr
 simp only [Sem.run_bind] at hr
 cases hs : s.run P w with
 | ok a w1 =>
  rw [hs] at hr
  simp only [Result.andThen_ok] at hr
  obtain ⟨h1, h2⟩ := k a w1 x w' hr
  exact ⟨h1, fun b o hb => h2 b o (h.run hs b o hb)⟩
 | halt e w1 => rw [hs] at hr; cases hr
theorem Tame.halt (e : Halt) : Tame P (.halt e) := fun w x w' hr => by simp at hr
theorem Tame.ite {c : Prop} [Decidable c] {x y : Sem Next} (h : Tame P x) (k : Tame P y) : Tame P (if c then x else y) := by split <;> assumption
theorem Tame.value (v : Value) : Tame P (pure (.value v)) := fun w x w' hr => by
 simp only [Sem.run_pure] at hr; cases hr; exact ⟨⟨_, rfl⟩, fun _ _ h => h⟩
theorem Tame.panic (e : RuntimeError) : Tame P (runtimePanic e) := fun w x w' hr => by
 have : ∀ w, ∃ h w', (runtimePanic e : Sem Next).run P w = .halt h w' := fun w => by
  unfold runtimePanic
  simp only [Sem.run_bind, run_program, Result.andThen_ok]
  cases e <;> simp only <;> first
   | exact ⟨_, _, rfl⟩
   | skip
  all_goals
   simp only [Sem.run_bind]
   generalize (Go.elemOf _).run P w = r
   cases r with
   | halt e w1 => exact ⟨_, _, rfl⟩
   | ok a w1 =>
    simp only [Result.andThen_ok]
    generalize (newVar _ _).run P w1 = r2
    cases r2 with
    | halt e w2 => exact ⟨_, _, rfl⟩
    | ok b w2 => exact ⟨_, _, rfl⟩
 obtain ⟨h, w1, h1⟩ := this w
 rw [h1] at hr; cases hr
theorem Tame.unsup (u : Unsupported) : Tame P (unsupported u) := fun w x w' hr => by simp at hr
theorem Mild.follow : ∀ (l : List FieldStep) (t : TypeId) (x : Option Value), Mild P (Go.followBlind l t x) := by
 intro l
 induction l with
 | nil => intro t x; exact Mild.pure _
 | cons s l ih =>
  intro t x
  unfold Go.followBlind
  refine .bind (.und _) fun d => ?_
  split
  ·split
   ·split <;> first | exact Mild.pure _ | exact Mild.stuck _ | exact ih _ _ | exact .bind (.part _ _ _) fun _ => ih _ _
   ·exact Mild.stuck _
  ·exact Mild.stuck _
theorem Mild.nilAhead : ∀ (n : Nat) (t : TypeId) (v : Value) (s : String), Mild P (Go.nilAhead n t v s) := by
 intro n
 induction n with
 | zero => intro t v s; exact Mild.pure _
 | succ n ih =>
  intro t v s
  unfold Go.nilAhead
  refine .bind (.info _) fun i => ?_
  split
  ·refine .bind (.follow _ _ _) fun r => ?_
   split
   ·exact Mild.pure _
   ·split <;> first | exact Mild.pure _ | exact Mild.stuck _ | exact ih _ _ _ | (refine .bind (.und _) fun d => ?_; split <;> exact Mild.pure _)
  ·exact Mild.stuck _
theorem Mild.partAt (a : Addr) (c b : Nat) : Mild P (Go.partAt a c b) := .bind (.byteOf _) fun _ => .bind (.byteOf _) fun _ => Mild.pure _
theorem Mild.fieldPlace (a : Addr) (f : Field) : Mild P (Go.fieldPlace a f) := .bind (.size _) fun _ => .ite (.partAt _ _ _) (Mild.pure _)
theorem still_tame {o : Oper} (h : stillOp P o.op = true) (ev : Operand → Value) : Tame P (execOp ev o) := by
 obtain ⟨dst, op, ty, pos, after, guard⟩ := o
 cases op <;> simp only [stillOp] at h <;> first | (cases h; done) | skip
 case move x => exact .value _
 case assign x => exact .value _
 case pick c a b => exact .bind (.bool _) fun _ => .value _
 case build t parts =>
  refine .of ?_
  unfold Instr.build
  refine .bind (.zero _) fun z => .bind (.und _) fun d => ?_
  split
  ·refine .bind (.mapMA (fun f => .bind (.size _) fun _ => Mild.pure _) _) fun pl => ?_
   split <;> trivial
  ·refine .bind (.size _) fun s => ?_
   split <;> trivial
  ·trivial
 case load t x => exact .of (.bind (.sure _) fun a => .loadVar _ _)
 case nilCheck x =>
  simp only [execOp]
  split
  ·exact .panic _
  ·exact .panic _
  ·exact .panic _
  ·split
   ·exact .panic _
   ·refine .bind .program fun p => .bind (.nilAhead _ _ _ _) fun r => ?_
    exact .ite (.bind (.unsup _) fun _ => .value _) (.value _)
   ·exact .value _
  ·exact .value _
 case binOp op t x y yt =>
  have hp : Prim P t := by
   split at h
   ·rename_i hu; exact .inl hu
   ·rename_i k hu; exact .inr (.inl ⟨k, hu⟩)
   ·rename_i hu; exact .inr (.inr hu)
   ·split at h <;> cases h
  exact .of (.bind (.eqGuard hp) fun _ => .binOp hp _ _)
 case unOp op t x =>
  refine .of ?_
  unfold Op.unary
  split <;> first | trivial | exact .intArith _ _ _ _ | exact .intBits _ _ _ _
 case convert s d x =>
  refine .of ?_
  unfold Go.convert
  split at h
  ·rename_i j k hs hd
   refine .und_bind hs (.und_bind hd ?_)
   cases ev x <;> first | exact Mild.pure _ | exact Mild.stuck _ | exact Mild.unsup _ | skip
   ·dsimp only
    unfold Conv.floatToInt
    dsimp only
    split
    ·exact .ite (Mild.pure _) (.bind (.choose _) fun _ => Mild.pure _)
    ·exact .bind (.choose _) fun _ => Mild.pure _
   ·rename_i p
    cases p <;> exact Mild.unsup _
  ·rename_i hs hd
   refine .und_bind hs (.und_bind hd ?_)
   cases ev x <;> first | exact Mild.pure _ | exact Mild.stuck _ | exact Mild.unsup _
  ·cases h
 case makeInterface t x =>
  refine .of (.bind (.und _) fun d => ?_)
  split <;> trivial
 case makeFunc f a b => exact .of trivial
 case slice t x lo hi mx =>
  cases mx with
  | some m => cases h
  | none =>
   refine .of ?_
   unfold Instr.sliceAt
   refine .bind (.und _) fun d => ?_
   split
   ·refine .bind (.sure _) fun a => .bind (.sliceBounds _ _ _ _ _) fun p => ?_
    split
    exact .bind (.size _) fun _ => Mild.pure _
   ·unfold Instr.slice
    refine .bind (.und _) fun d => ?_
    split
    ·refine .ite (.bind (.stuck _) fun _ => ?_) ?_
     ·refine .bind (.sliceBounds _ _ _ _ _) fun p => ?_
      split
      exact Mild.pure _
     ·refine .bind (.sliceBounds _ _ _ _ _) fun p => ?_
      split
      exact Mild.pure _
    ·refine .bind (.sliceBounds _ _ _ _ _) fun p => ?_
     split
     exact .bind (.size _) fun _ => Mild.pure _
    ·refine .bind (.asAddr _) fun a => .bind (.und _) fun d => ?_
     split
     ·refine .bind (.sliceBounds _ _ _ _ _) fun p => ?_
      split
      exact .bind (.size _) fun _ => Mild.pure _
     ·exact Mild.stuck _
    ·exact Mild.stuck _
 case fieldAddr s x f =>
  refine .of (.bind (.und _) fun d => ?_)
  split
  ·split
   ·exact .bind (.sure _) fun a => .bind (.fieldPlace _ _) fun _ => Mild.pure _
   ·exact Mild.stuck _
  ·exact Mild.stuck _
 case field t x f =>
  refine .of (.bind (.und _) fun d => ?_)
  split
  ·split
   ·exact .bind (.asAgg _) fun _ => .part _ _ _
   ·trivial
  ·trivial
 case indexAddr t x i =>
  refine .of ?_
  unfold Instr.indexAt
  refine .bind (.intOf _) fun p => ?_
  obtain ⟨k, j⟩ := p
  refine .bind (.und _) fun d => ?_
  extract_lets jp
  have tail : ∀ q : Option Addr × Nat × TypeId, Mild P (jp q) := fun q => by
   obtain ⟨base, len, elem⟩ := q
   refine .bind (.und _) fun d => ?_
   cases base with
   | none => exact .bounds _ _ _ _
   | some a => exact .ite (.bind (.size _) fun _ => Mild.pure _) (.ite (Mild.unsup _) (.bounds _ _ _ _))
  split
  ·exact .bind (.sure _) fun _ => .bind (Mild.pure _) tail
  ·exact .bind (Mild.pure _) tail
  ·exact .bind (Mild.stuck _) tail
 case index t x i =>
  refine .of ?_
  unfold Instr.index
  refine .bind (.intOf _) fun p => ?_
  obtain ⟨k, j⟩ := p
  refine .bind (.und _) fun d => ?_
  split
  ·exact .ite (.bind (.size _) fun _ => .part _ _ _) (.bounds _ _ _ _)
  ·split
   ·exact Mild.pure _
   ·exact .bounds _ _ _ _
  ·exact Mild.stuck _
 case extract x i =>
  refine .of ?_
  unfold Instr.extract
  split
  ·split <;> trivial
  ·trivial
 case call c =>
  split at h
  ·rename_i hc
   have : execOp ev ⟨dst, .call c, ty, pos, after, guard⟩ = (do pure (.value (← Builtin.len_ c.argTypes ty (c.args.map ev))) : Sem Next) := by
    simp [execOp, resolve, hc, invoke, builtin]
   rw [this]
   refine .of ?_
   unfold Builtin.len_
   split at h <;> first | (cases h; done) | skip
   all_goals
    rename_i hu
    obtain ⟨t, ht, hu⟩ := Option.bind_eq_some_iff.1 hu
    simp only [ht]
    cases hx : (c.args.map ev)[0]? with
    | none => exact Mild.stuck _
    | some x =>
     refine .und_bind hu ?_
     cases x <;> first | exact Mild.pure _ | exact Mild.stuck _
  ·cases h
end
section
variable {P : Program} {ops : Array Oper} {Q : Exit → Act → World → Prop}
/-- All that a listed operation stands behind is listed. -/
def Closed (ops : Array Oper) (listed : Array Bool) : Prop := ∀ (j : Nat) (o : Oper), ops[j]? = some o → listed.getD j true = true → ∀ e ∈ o.after, Region.binds .any e = true → listed.getD e.on false = true
theorem closed_start (ops : Array Oper) : Closed ops (Array.replicate ops.size false) := by
 intro j o ho h
 have hj : j < ops.size := (Array.getElem?_eq_some_iff.1 ho).1
 simp [hj] at h
theorem closed_list {listed : Array Bool} {i : Nat} (h : Closed ops listed) (hr : i ∈ Region.ready .any ops listed) : Closed ops (listed.setIfInBounds i true) := by
 intro j o ho hj e he hb
 obtain ⟨h0, oi, hoi, hall⟩ := mem_ready.1 hr
 by_cases hij : j = i
 ·subst hij
  rw [hoi] at ho; cases ho
  exact getD_set_true (hall e he hb)
 ·rw [getD_set_ne true (Ne.symm hij)] at hj
  exact getD_set_true (h j o ho hj e he hb)
theorem fold_bits (acc : Array Nat) : ∀ (l : List Edge) (s i : Nat), (l.foldl (fun s e => if Region.binds .any e then s ||| 2 ^ e.on ||| acc.getD e.on 0 else s) s).testBit i = true →
  s.testBit i = true ∨ ∃ e ∈ l, Region.binds .any e = true ∧ (e.on = i ∨ (acc.getD e.on 0).testBit i = true) := by
 intro l
 induction l with
 | nil => intro s i h; exact .inl h
 | cons e l ih =>
  intro s i h
  rw [List.foldl_cons] at h
  rcases ih _ i h with h1 | ⟨e', he', hb, hq⟩
  ·split at h1
   ·rename_i hb
    rw [Nat.testBit_or, Nat.testBit_or, Bool.or_eq_true, Bool.or_eq_true] at h1
    rcases h1 with (h1 | h1) | h1
    ·exact .inl h1
    ·refine .inr ⟨e, by simp, hb, .inl ?_⟩
     rw [Nat.testBit_two_pow] at h1
     simpa using h1
    ·exact .inr ⟨e, by simp, hb, .inr h1⟩
   ·exact .inl h1
  ·exact .inr ⟨e', by simp [he'], hb, hq⟩
/-- What 'before' says, step by step. -/
def BeforeOK (ops : List Oper) (acc : Array Nat) : Prop := acc.size = ops.length ∧ ∀ (j i : Nat), (acc.getD j 0).testBit i = true → ∃ o, ops[j]? = some o ∧ ∃ e ∈ o.after, Region.binds .any e = true ∧ (e.on = i ∨ (e.on < j ∧ (acc.getD e.on 0).testBit i = true))
theorem push_getD (acc : Array Nat) (x k : Nat) : (acc.push x).getD k 0 = if k < acc.size then acc.getD k 0 else if k = acc.size then x else 0 := by
 simp only [Array.getD_eq_getD_getElem?, Array.getElem?_push]
 by_cases h : k = acc.size
 ·subst h; simp
 ·rw [if_neg h]
  split
  ·rfl
  ·rw [Array.getElem?_eq_none (by omega)]; rfl
theorem before_fold : ∀ (rest done : List Oper) (acc : Array Nat), BeforeOK done acc →
  BeforeOK (done ++ rest) (rest.foldl (fun acc o => acc.push (o.after.foldl (fun s e => if Region.binds .any e then s ||| 2 ^ e.on ||| acc.getD e.on 0 else s) 0)) acc) := by
 intro rest
 induction rest with
 | nil => intro done acc h; simpa using h
 | cons o rest ih =>
  intro done acc h
  rw [List.foldl_cons, show done ++ o :: rest = (done ++ [o]) ++ rest by simp]
  refine ih (done ++ [o]) _ ⟨by simp [h.1], fun j i hb => ?_⟩
  obtain ⟨hs, hall⟩ := h
  rw [push_getD] at hb
  by_cases hj : j < acc.size
  ·rw [if_pos hj] at hb
   obtain ⟨o', ho', e, he, hbind, hq⟩ := hall j i hb
   refine ⟨o', by rw [List.getElem?_append_left (by omega)]; exact ho', e, he, hbind, ?_⟩
   rcases hq with hq | ⟨hlt, hq⟩
   ·exact .inl hq
   ·exact .inr ⟨hlt, by rw [push_getD, if_pos (by omega)]; exact hq⟩
  ·rw [if_neg hj] at hb
   split at hb
   ·rename_i hj2
    subst hj2
    rw [← Array.foldl_toList] at hb
    rcases fold_bits acc o.after.toList 0 i hb with h1 | ⟨e, he, hbind, hq⟩
    ·simp at h1
    ·refine ⟨o, by rw [hs]; simp, e, by simpa using he, hbind, ?_⟩
     rcases hq with hq | hq
     ·exact .inl hq
     ·have hlt : e.on < acc.size := by
       rcases Nat.lt_or_ge e.on acc.size with q | q
       ·exact q
       ·simp [Array.getElem?_eq_none q] at hq
      exact .inr ⟨hlt, by rw [push_getD, if_pos hlt]; exact hq⟩
   ·simp at hb
theorem before_ok (ops : Array Oper) : BeforeOK ops.toList (Region.before ops) := by
 have h := before_fold ops.toList [] #[] ⟨rfl, fun j i h => by simp at h⟩
 unfold Region.before
 rw [← Array.foldl_toList]
 exact h
/-- What stands behind an operation that isn't listed isn't ready. -/
theorem behind_listed {listed : Array Bool} (hc : Closed ops listed) : ∀ (j i : Nat), ((Region.before ops).getD j 0).testBit i = true → (∀ o, ops[j]? = some o → ∀ e ∈ o.after, Region.binds .any e = true → listed.getD e.on false = true) → listed.getD i false = true := by
 intro j
 induction j using Nat.strongRecOn with
 | _ j ih =>
  intro i hb hd
  obtain ⟨o, ho, e, he, hbind, hq⟩ := (before_ok ops).2 j i hb
  have ho' : ops[j]? = some o := by simpa using ho
  have h1 := hd o ho' e he hbind
  rcases hq with rfl | ⟨hlt, hq⟩
  ·exact h1
  ·refine ih e.on hlt i hq fun o2 ho2 e2 he2 hb2 => ?_
   refine hc e.on o2 ho2 ?_ e2 he2 hb2
   rcases Nat.lt_or_ge e.on listed.size with q | q
   ·simpa [q] using h1
   ·simp [Array.getElem?_eq_none q] at h1
theorem unlisted_getD {listed : Array Bool} {i : Nat} (h : listed.getD i true = false) : listed.getD i false = false := by
 rcases Nat.lt_or_ge i listed.size with q | q
 ·simpa [Array.getD, q] using h
 ·simp [Array.getElem?_eq_none q] at h
end
section
variable {P : Program} {N G : Nat} {ρ : Nat → Place} {ops : Array Oper}
/-- What a call's end has to be. -/
def RetOK (G : Nat) (ρ : Nat → Place) (H : Heap) (w : World) (res : FRes) (H1 : Heap) : Ending → World → Prop := fun e w' =>
 ∃ ρ', Step G ρ H w ρ' H1 w' ∧ match res with
  | .ret v => ∃ v', e = .returned v' ∧ VR H1.length ρ' v v'
  | .pan v => ∃ v', e = .panicked [{ v := v', recovered := false }] ∧ VR H1.length ρ' v v'
theorem Fits.step {H H1 : Heap} {ρ1 : Nat → Place} {w w1 : World} {e : Env} {a : Act} (h : Fits G N H.length ρ e a) (hs : Step G ρ H w ρ1 H1 w1) : Fits G N H1.length ρ1 e a :=
 ⟨h.er.mono hs.len hs.same, hs.rel.many, hs.rel.glob⟩
theorem Fits.put {H : Heap} {e : Env} {a : Act} {d : Option Nat} {v v' : Value} (h : Fits G N H.length ρ e a) (hd : dstOk N d = true) (hv : VR H.length ρ v v') : Fits G N H.length ρ (putO e d v) (a.put d v') :=
 ⟨h.er.putO hd hv, h.many, h.glob⟩
theorem prepOper_dst {o : Oper} {ao : AOper} {chk : List (Nat × Nat)} (hp : prepOper P N G ops o chk = some ao) : dstOk N o.dst = true := by
 unfold prepOper at hp
 split at hp
 ·cases hp
 ·split at hp
  ·rename_i hq
   simp only [Bool.and_eq_true] at hq
   exact hq.1
  ·cases hp
theorem wanted_ok {n : Nat} {o : Oper} {ao : AOper} {chk : List (Nat × Nat)} {e : Env} {a : Act} {b : Bool} (hp : prepOper P N G ops o chk = some ao) (hf : Fits G N n ρ e a) (h : wantedA e ao.guard = some b) :
  Region.wanted o (yielded ops a.tmps) = b := by
 unfold prepOper at hp
 split at hp
 ·cases hp
 ·split at hp
  ·split at hp
   ·rename_i hg
    cases hp
    simp only [wantedA] at h
    cases h
    simp [Region.wanted, hg]
   ·rename_i j want hg
    split at hp
    ·rename_i t ht
     split at hp
     ·rename_i hlt
      cases hp
      simp only [wantedA] at h
      split at h
      ·rename_i q hq
       cases h
       have h1 := hf.er.2 t hlt
       rw [hq] at h1
       have h2 := h1.inv_bool
       have hlt2 : t < a.tmps.size := by rw [hf.er.1]; exact hlt
       have h3 : a.tmps[t]? = some (.bool q) := by
        rw [Array.getD_eq_getD_getElem?, Array.getElem?_eq_getElem hlt2] at h2
        rw [Array.getElem?_eq_getElem hlt2]
        simpa using h2
       simp only [Region.wanted, hg, yielded, ht, Option.bind_some, h3]
       rw [Bool.eq_iff_iff]
       simp
      ·rename_i hq
       cases h
       have h1 := hf.er.2 t hlt
       have hlt2 : t < a.tmps.size := by rw [hf.er.1]; exact hlt
       rw [Array.getD_eq_getD_getElem?, Array.getElem?_eq_getElem hlt2] at h1
       simp only [Option.getD_some] at h1
       simp only [Region.wanted, hg, yielded, ht, Option.bind_some, Array.getElem?_eq_getElem hlt2]
       have h2 : ∀ b, a.tmps[t] ≠ .bool b := by
        intro b hb
        rw [hb] at h1
        generalize get e t = x at h1 hq
        cases h1
        exact hq b rfl
       split
       ·rename_i b hb
        exact absurd (Option.some.inj hb) (h2 b)
       ·rfl
     ·cases hp
    ·cases hp
  ·cases hp
theorem prepOper_op {o : Oper} {ao : AOper} {chk : List (Nat × Nat)} (hp : prepOper P N G ops o chk = some ao) : prepOp P N G o.op = some ao.op ∧ ao.dst = o.dst ∧ ao.chk = chk ∧ (∀ c ∈ chk, c.1 < N) := by
 unfold prepOper at hp
 split at hp
 ·cases hp
 ·rename_i op hop
  split at hp
  ·rename_i hq
   simp only [Bool.and_eq_true] at hq
   have hc : ∀ c ∈ chk, c.1 < N := fun c hc => by simpa using List.all_eq_true.1 hq.2 c hc
   split at hp
   ·cases hp; exact ⟨hop, rfl, rfl, hc⟩
   ·split at hp
    ·split at hp
     ·cases hp; exact ⟨hop, rfl, rfl, hc⟩
     ·cases hp
    ·cases hp
  ·cases hp
end
end Go.Proofs.Ytpllhhaeclnngaa.Ev
