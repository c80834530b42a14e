/- The words of a small evaluator for translated Go code: it runs a function over lists of cells, with no draws of order and no draws of room. Conditions: none; these are definitions. -/
import Derived.Calls
import Derived.Orders
import Derived.Still
import Derived.Defers
namespace Go.Proofs.YtedemfmafdilmaaDoor.Ev

/-- A text of such bytes. -/
def bs (l : List UInt8) : ByteArray := ⟨l.toArray⟩

abbrev Env := List Value

def get : Env → Nat → Value
  | [], _ => undef
  | v :: _, 0 => v
  | _ :: e, n + 1 => get e n

def put : Env → Nat → Value → Env
  | [], 0, v => [v]
  | [], n + 1, v => undef :: put [] n v
  | _ :: e, 0, v => v :: e
  | u :: e, n + 1, v => u :: put e n v

/-- A block: a row of cells (unit: how many cells an element has, 0: no slice was made of it by make or append; wr: the code may write there), an iterator over a text, nothing. -/
inductive AObj where
  | row (cs : List Value) (unit : Nat) (wr : Bool)
  | iter (s : ByteArray) (pos : Nat)
  | dead

abbrev Heap := List AObj

def hget (H : Heap) (b : Nat) : AObj :=
  match H[b]? with
  | some o => o
  | none => .dead

def AObj.wrt : AObj → Bool
  | .row _ _ wr => wr
  | .iter _ _ => true
  | .dead => false

def AObj.live : AObj → Bool
  | .dead => false
  | _ => true

/-- Values without addresses. -/
def closed1 : Value → Bool
  | .bool _ | .int _ _ | .float _ _ | .string _ | .pointer none | .slice none 0 0 | .map none | .nilFunc | .nilIface => true
  | _ => false

def closedV : Value → Bool
  | .agg cs => cs.toList.all closed1
  | .tuple cs => cs.toList.all closed1
  | .func (.func _) f c => f.toList.isEmpty && c.toList.isEmpty
  | v => closed1 v

def oneCell : Value → Bool
  | .agg _ | .tuple _ => false
  | _ => true

/-- How two values of a type are told apart. -/
inductive EqT where
  | prim
  | ptr
  | nilOnly
  | struct (fs : List (Nat × Nat × Bool))
  deriving Inhabited

inductive AOp where
  | mov (x : Operand)
  | pick (c a b : Operand)
  | alloc (zero : List Value)
  | box (x : Operand)
  | build (zero : List Value) (parts : List (Nat × Nat × Operand))
  | buildSlice (unit len : Nat) (cells : List Value) (parts : List (Nat × Nat × Operand))
  | load1 (x : Operand)
  | loadN (n : Nat) (x : Operand)
  | store (n : Nat) (a x : Operand)
  | nilChk (x : Operand)
  | bin (op : BinOp) (x y : Operand)
  | eqb (neg : Bool) (x y : Operand)
  | eqp (kind : Nat) (neg : Bool) (x y : Operand)
  | eqs (neg : Bool) (sz : Nat) (fs : List (Nat × Nat)) (x y : Operand)
  | un (op : UnOp) (x : Operand)
  | conv (k : IntKind) (x : Operand)
  | idStr (x : Operand)
  | s2b (x : Operand)
  | b2s (x : Operand)
  | mkIface (t : TypeId) (x : Operand)
  | mkFunc (fn : FuncId) (first captured : List Operand)
  | mkSlice (unit bytes : Nat) (zero : List Value) (l c : Operand)
  | slStr (x : Operand) (lo hi : Option Operand)
  | slSl (unit : Nat) (x : Operand) (lo hi : Option Operand)
  | slArr (n unit : Nat) (x : Operand) (lo hi : Option Operand)
  | fAddr (off : Nat) (x : Operand)
  | field1 (off : Nat) (x : Operand)
  | fieldN (off n : Nat) (x : Operand)
  | iAddrArr (len unit : Nat) (x i : Operand)
  | iAddrSl (unit : Nat) (x i : Operand)
  | idxStr (x i : Operand)
  | idxArr1 (len : Nat) (x i : Operand)
  | idxArrN (len n : Nat) (x i : Operand)
  | rng (x : Operand)
  | nxt (x : Operand)
  | extract (x : Operand) (i : Nat)
  | tAssert (t : TypeId) (x : Operand)
  | lenStr (x : Operand)
  | lenSl (x : Operand)
  | lenK (n : Nat)
  | append (unit bytes : Nat) (s x : Operand)
  | copy (unit : Nat) (d s : Operand)
  | mm (big : Bool) (xs : List Operand)
  | callv (f : Operand) (args : List Operand)
  | panic (x : Operand)

structure AOper where
  dst : Option Nat
  op : AOp
  guard : Option (Nat × Bool)
  chk : List (Nat × Nat)

inductive ACode where
  | skip
  | ops (l : List AOper)
  | seq (a b : ACode)
  | cond (c : Operand) (a b : ACode)
  | block (id : Nat) (c : ACode)
  | loop (c : ACode)
  | exit (id : Nat)
  | ret

inductive AResult where
  | tmp (t : Nat)
  | cell1 (t : Nat)
  | cellN (t n : Nat)

inductive AFunc where
  | code (n : Nat) (body : ACode) (res : List AResult)
  | ext (g : List Value → Option Value)

inductive ARes where
  | val (v : Value) (H : Heap)
  | skip (H : Heap)
  | call (f : FuncId) (args : List Value)
  | pan (v : Value)
  | no

inductive AExit where
  | norm
  | exit (id : Nat)
  | ret
  | pan (v : Value)

inductive FRes where
  | ret (v : Value)
  | pan (v : Value)

def aev (e : Env) : Operand → Value
  | .tmp t => get e t
  | .const v => v
  | .global g => .pointer (some ⟨g, 0, none⟩)
  | .func f => .func (.func f) #[] #[]

/-- What a run that asks nothing of the world answers. -/
def pr {α : Type} : Sem α → Option α
  | .pure a => some a
  | _ => none

def bytesLt : List UInt8 → List UInt8 → Bool := Op.bytesLess

def strBin (op : BinOp) (x y : ByteArray) : Option Value :=
  match op with
  | .add => if x.size + y.size ≤ 4611686018427387904 then some (.string (x ++ y)) else none
  | .eql => some (.bool (x.data.toList == y.data.toList))
  | .neq => some (.bool !(x.data.toList == y.data.toList))
  | .lss => some (.bool (Op.bytesLess x.data.toList y.data.toList))
  | .leq => some (.bool (Op.bytesLess x.data.toList y.data.toList || x.data.toList == y.data.toList))
  | .gtr => some (.bool !(Op.bytesLess x.data.toList y.data.toList || x.data.toList == y.data.toList))
  | .geq => some (.bool !(Op.bytesLess x.data.toList y.data.toList))
  | _ => none

def intBin (op : BinOp) (k : IntKind) (a : Int) (k' : IntKind) (b : Int) : Option Value :=
  match op with
  | .shl | .shr => if b < 0 then none else pr (Op.shift op k a k' b)
  | .add | .sub | .mul => if k = k' then pr (Op.intArith op k a b) else none
  | .quo | .rem => if k = k' then (if b = 0 then none else pr (Op.intDiv op k a b)) else none
  | .and | .or | .xor | .andNot => if k = k' then pr (Op.intBits op k a b) else none
  | _ => if k = k' then pr (Op.intCmp op a b) else none

def binV (op : BinOp) (x y : Value) : Option Value :=
  match x, y with
  | .int k a, .int k' b => intBin op k a k' b
  | .string a, .string b => strBin op a b
  | _, _ => none

/-- Equality of two cells of numbers, texts, bools. -/
def eq1 (x y : Value) : Option Bool :=
  match x, y with
  | .bool a, .bool b => some (a == b)
  | .int k a, .int k' b => if k = k' then some (a == b) else none
  | .string a, .string b => some (a.data.toList == b.data.toList)
  | _, _ => none

/-- Equality at a kind: 0 a bool, 1 a number, 2 a text. -/
def eqT1 (tag : Nat) (x y : Value) : Option Bool :=
  match tag, x, y with
  | 0, .bool a, .bool b => some (a == b)
  | 1, .int k a, .int k' b => if k = k' then some (a == b) else none
  | 2, .string a, .string b => some (a.data.toList == b.data.toList)
  | _, _, _ => none

def eqL : List (Nat × Value × Value) → Option Bool
  | [] => some true
  | (t, x, y) :: l =>
    match eqT1 t x y with
    | some true => eqL l
    | some false => some false
    | none => none

def unitRow : AObj → Bool
  | .row cs 0 true => cs.length != 0
  | _ => false

/-- Are two places one (kind 0), a list nil (1), a function nil (2)? -/
def eqPtr (H : Heap) (x y : Value) : Option Bool :=
  match x, y with
  | .pointer none, .pointer none => some true
  | .pointer none, .pointer (some _) => some false
  | .pointer (some _), .pointer none => some false
  | .pointer (some ⟨b, o, none⟩), .pointer (some ⟨c, p, none⟩) =>
    if b = c then some (o == p)
    else if unitRow (hget H b) && unitRow (hget H c) then some false else none
  | _, _ => none

def eqSl (x y : Value) : Option Bool :=
  match x, y with
  | .slice none _ _, .slice none _ _ => some true
  | .slice none _ _, .slice (some _) _ _ => some false
  | .slice (some _) _ _, .slice none _ _ => some false
  | _, _ => none

def eqFn (x y : Value) : Option Bool :=
  match x, y with
  | .nilFunc, .nilFunc => some true
  | .nilFunc, .func _ _ _ => some false
  | .func _ _ _, .nilFunc => some false
  | _, _ => none

def eqP (H : Heap) (kind : Nat) (x y : Value) : Option Bool :=
  match kind with
  | 0 => eqPtr H x y
  | 1 => eqSl x y
  | _ => eqFn x y

def setL : List Value → Nat → List Value → List Value
  | cs, _, [] => cs
  | cs, o, v :: vs => setL (cs.set o v) (o + 1) vs

def cellsOf (v : Value) : List Value :=
  match v with
  | .agg cs => cs.toList
  | v => [v]

def fillL : List Value → List (Nat × Nat × Value) → Option (List Value)
  | cs, [] => some cs
  | cs, (off, n, v) :: l =>
    if (cellsOf v).length = n ∧ off + n ≤ cs.length then fillL (setL cs off (cellsOf v)) l else none

/-- The cells of a list's first so many elements. -/
def srcCells (H : Heap) (unit : Nat) (n : Nat) (x : Value) : Option (List Value) :=
  match x with
  | .slice (some ⟨b, o, none⟩) _ _ =>
    match hget H b with
    | .row cs _ _ => if o + n * unit ≤ cs.length then some ((cs.drop o).take (n * unit)) else none
    | _ => none
  | .slice none _ _ => if n = 0 then some [] else none
  | .slice (some ⟨_, _, some _⟩) _ _ => if n = 0 then some [] else none
  | .string s => if n ≤ s.size then some ((s.data.toList.take n).map fun b => .int .u8 b.toNat) else none
  | _ => none

def lenV : Value → Option Nat
  | .slice _ n _ => some n
  | .string s => some s.size
  | _ => none

def roomMax : Nat := 8796093022208

def appendV (H : Heap) (unit bytes : Nat) (s x : Value) : ARes :=
  match lenV x with
  | none => .no
  | some n =>
    match srcCells H unit n x, s with
    | some new, .slice none 0 0 =>
      if n = 0 then .val (.slice none 0 0) H
      else if n * bytes ≤ roomMax ∧ n ≤ roomMax then .val (.slice (some ⟨H.length, 0, none⟩) n n) (H ++ [.row new unit true])
      else .no
    | some new, .slice (some ⟨b, o, none⟩) l c =>
      if n = 0 then .val s H else
      match hget H b with
      | .row cs u true =>
        if u = unit ∧ l ≤ c ∧ o + c * unit ≤ cs.length ∧ new.length = n * unit then
          if l + n ≤ c then
            if new.all oneCell then .val (.slice (some ⟨b, o, none⟩) (l + n) c) (H.set b (.row (setL cs (o + l * unit) new) u true)) else .no
          else if (l + n) * bytes ≤ roomMax ∧ l + n ≤ roomMax ∧ new.all oneCell then
            .val (.slice (some ⟨H.length, 0, none⟩) (l + n) (l + n)) ((H.set b .dead) ++ [.row ((cs.drop o).take (l * unit) ++ new) unit true])
          else .no
        else .no
      | _ => .no
    | _, _ => .no

def intV : Value → Option Int
  | .int _ n => some n
  | _ => none

/-- A bound of a slice expression: between lo and hi. -/
def bound (e : Env) (x : Option Operand) (dflt most : Nat) : Option Nat :=
  match x with
  | none => some dflt
  | some x =>
    match aev e x with
    | .int _ i => if 0 ≤ i ∧ i ≤ most then some i.toNat else none
    | _ => none

def ofO : Option Value → Heap → ARes
  | some v, H => .val v H
  | none, _ => .no

def cutCells (cs : List Value) (o n : Nat) : List Value := (cs.drop o).take n

def mm2 (big : Bool) : Value → Value → Option Value
  | .int k x, .int k' y => if k = k' then some (.int k (if big then (if y > x then y else x) else (if y < x then y else x))) else none
  | _, _ => none

def mmL (big : Bool) : Value → List Value → Option Value
  | x, [] => some x
  | x, y :: l =>
    match mm2 big x y with
    | some z => mmL big z l
    | none => none

def bytesOf : List Value → Option (List UInt8)
  | [] => some []
  | .int .u8 n :: l => (bytesOf l).map fun r => UInt8.ofNat n.toNat :: r
  | _ => none

def aop (e : Env) (H : Heap) : AOp → ARes
  | .mov x => .val (aev e x) H
  | .pick c a b =>
    match aev e c with
    | .bool t => .val (if t then aev e a else aev e b) H
    | _ => .no
  | .alloc zero => .val (.pointer (some ⟨H.length, 0, none⟩)) (H ++ [.row zero 0 true])
  | .box x => .val (.pointer (some ⟨H.length, 0, none⟩)) (H ++ [.row (cellsOf (aev e x)) 0 true])
  | .build zero parts =>
    match fillL zero (parts.map fun p => (p.1, p.2.1, aev e p.2.2)) with
    | some cs => .val (.agg cs.toArray) H
    | none => .no
  | .buildSlice unit len cells parts =>
    match fillL cells (parts.map fun p => (p.1, p.2.1, aev e p.2.2)) with
    | some cs => .val (.slice (some ⟨H.length, 0, none⟩) len len) (H ++ [.row cs unit true])
    | none => .no
  | .load1 x =>
    match aev e x with
    | .pointer (some ⟨b, o, none⟩) =>
      match hget H b with
      | .row cs _ _ => ofO cs[o]? H
      | _ => .no
    | _ => .no
  | .loadN n x =>
    match aev e x with
    | .pointer (some ⟨b, o, none⟩) =>
      match hget H b with
      | .row cs _ _ => if o + n ≤ cs.length then .val (.agg (cutCells cs o n).toArray) H else .no
      | _ => .no
    | _ => .no
  | .store n a x =>
    match aev e a with
    | .pointer (some ⟨b, o, none⟩) =>
      match hget H b with
      | .row cs u true =>
        if (cellsOf (aev e x)).length = n ∧ o + n ≤ cs.length ∧ (cellsOf (aev e x)).all oneCell = true then .skip (H.set b (.row (setL cs o (cellsOf (aev e x))) u true)) else .no
      | _ => .no
    | _ => .no
  | .nilChk x =>
    match aev e x with
    | .pointer (some a) => .val (.pointer (some a)) H
    | .func (.func f) a b => .val (.func (.func f) a b) H
    | .iface t v => .val (.iface t v) H
    | _ => .no
  | .bin op x y => ofO (binV op (aev e x) (aev e y)) H
  | .eqb neg x y => ofO ((eq1 (aev e x) (aev e y)).map fun b => .bool (b != neg)) H
  | .eqp kind neg x y => ofO ((eqP H kind (aev e x) (aev e y)).map fun b => .bool (b != neg)) H
  | .eqs neg sz fs x y =>
    match aev e x, aev e y with
    | .agg a, .agg b =>
      if a.toList.length ≠ sz ∨ b.toList.length ≠ sz then .no else
      ofO ((eqL (fs.map fun f => (f.2, a.toList.getD f.1 undef, b.toList.getD f.1 undef))).map fun b => .bool (b != neg)) H
    | _, _ => .no
  | .un op x =>
    match op, aev e x with
    | .neg, .int k n => ofO (pr (Op.intArith .sub k 0 n)) H
    | .xor, .int k n => ofO (pr (Op.intBits .xor k (if k.signed then -1 else k.max) n)) H
    | .not, .bool b => .val (.bool !b) H
    | _, _ => .no
  | .conv k x =>
    match aev e x with
    | .int _ n => .val (.int k (k.wrap n)) H
    | _ => .no
  | .idStr x =>
    match aev e x with
    | .string s => .val (.string s) H
    | _ => .no
  | .s2b x =>
    match aev e x with
    | .string s => .val (.slice (some ⟨H.length, 0, none⟩) s.size s.size) (H ++ [.row (s.data.toList.map fun b => .int .u8 b.toNat) 1 true])
    | _ => .no
  | .b2s x =>
    match lenV (aev e x) with
    | none => .no
    | some n =>
      match aev e x with
      | .slice _ _ _ =>
        match (srcCells H 1 n (aev e x)).bind bytesOf with
        | some l => .val (.string ⟨l.toArray⟩) H
        | none => .no
      | _ => .no
  | .mkIface t x => .val (.iface t (aev e x)) H
  | .mkFunc fn first captured => .val (.func (.func fn) (first.map (aev e)).toArray (captured.map (aev e)).toArray) H
  | .mkSlice unit bytes zero l c =>
    match aev e l, aev e c with
    | .int _ i, .int _ j =>
      if 0 ≤ i ∧ i ≤ j ∧ j.toNat * bytes ≤ roomMax ∧ j.toNat ≤ roomMax then
        .val (.slice (some ⟨H.length, 0, none⟩) i.toNat j.toNat) (H ++ [.row ((List.replicate j.toNat zero).flatten) unit true])
      else .no
    | _, _ => .no
  | .slStr x lo hi =>
    match aev e x with
    | .string s =>
      match bound e hi s.size s.size with
      | none => .no
      | some h =>
        match bound e lo 0 h with
        | none => .no
        | some l => .val (.string (s.extract l h)) H
    | _ => .no
  | .slSl unit x lo hi =>
    match aev e x with
    | .slice a len c =>
      match bound e hi len c with
      | none => .no
      | some h =>
        match bound e lo 0 h with
        | none => .no
        | some l =>
          match a with
          | none => .val (.slice none (h - l) (c - l)) H
          | some ⟨b, o, none⟩ => .val (.slice (some (if c = l ∧ l ≠ 0 then ⟨b, 0, some 0⟩ else ⟨b, o + l * unit, none⟩)) (h - l) (c - l)) H
          | some ⟨b, o, some k⟩ => .val (.slice (some ⟨b, o, some k⟩) (h - l) (c - l)) H
    | _ => .no
  | .slArr n unit x lo hi =>
    match aev e x with
    | .pointer (some ⟨b, o, none⟩) =>
      match bound e hi n n with
      | none => .no
      | some h =>
        match bound e lo 0 h with
        | none => .no
        | some l => .val (.slice (some (if n = l ∧ l ≠ 0 then ⟨b, 0, some 0⟩ else ⟨b, o + l * unit, none⟩)) (h - l) (n - l)) H
    | _ => .no
  | .fAddr off x =>
    match aev e x with
    | .pointer (some ⟨b, o, none⟩) => .val (.pointer (some ⟨b, o + off, none⟩)) H
    | _ => .no
  | .field1 off x =>
    match aev e x with
    | .agg cs => ofO cs.toList[off]? H
    | _ => .no
  | .fieldN off n x =>
    match aev e x with
    | .agg cs => if off + n ≤ cs.toList.length then .val (.agg (cutCells cs.toList off n).toArray) H else .no
    | _ => .no
  | .iAddrArr len unit x i =>
    match aev e x, aev e i with
    | .pointer (some ⟨b, o, none⟩), .int _ i => if 0 ≤ i ∧ i < len then .val (.pointer (some ⟨b, o + i.toNat * unit, none⟩)) H else .no
    | _, _ => .no
  | .iAddrSl unit x i =>
    match aev e x, aev e i with
    | .slice (some ⟨b, o, none⟩) len _, .int _ i => if 0 ≤ i ∧ i < len then .val (.pointer (some ⟨b, o + i.toNat * unit, none⟩)) H else .no
    | _, _ => .no
  | .idxStr x i =>
    match aev e x, aev e i with
    | .string s, .int _ i => if 0 ≤ i then ofO (s.data.toList[i.toNat]?.map fun b => .int .u8 b.toNat) H else .no
    | _, _ => .no
  | .idxArr1 len x i =>
    match aev e x, aev e i with
    | .agg cs, .int _ i => if 0 ≤ i ∧ i < len then ofO cs.toList[i.toNat]? H else .no
    | _, _ => .no
  | .idxArrN len n x i =>
    match aev e x, aev e i with
    | .agg cs, .int _ i => if 0 ≤ i ∧ i < len ∧ i.toNat * n + n ≤ cs.toList.length then .val (.agg (cutCells cs.toList (i.toNat * n) n).toArray) H else .no
    | _, _ => .no
  | .rng x =>
    match aev e x with
    | .string s => .val (.pointer (some ⟨H.length, 0, none⟩)) (H ++ [.iter s 0])
    | _ => .no
  | .nxt x =>
    match aev e x with
    | .pointer (some ⟨b, 0, none⟩) =>
      match hget H b with
      | .iter s pos =>
        if pos < s.size then
          .val (.tuple #[.bool true, .int .i64 pos, .int .i32 (Utf8.decode s pos).1]) (H.set b (.iter s (pos + (Utf8.decode s pos).2)))
        else .val (.tuple #[.bool false]) H
      | _ => .no
    | _ => .no
  | .extract x i =>
    match aev e x with
    | .tuple vs => ofO vs.toList[i]? H
    | _ => .no
  | .tAssert t x =>
    match aev e x with
    | .iface u v => if u = t then .val v H else .no
    | _ => .no
  | .lenStr x =>
    match aev e x with
    | .string s => .val (.int .i64 s.size) H
    | _ => .no
  | .lenSl x =>
    match aev e x with
    | .slice _ n _ => .val (.int .i64 n) H
    | _ => .no
  | .lenK n => .val (.int .i64 n) H
  | .append unit bytes s x => appendV H unit bytes (aev e s) (aev e x)
  | .copy unit d s =>
    match aev e d, lenV (aev e s) with
    | .slice (some ⟨b, o, none⟩) dl _, some n =>
      match hget H b with
      | .row cs u true =>
        match srcCells H unit (min n dl) (aev e s) with
        | some new =>
          if new.all oneCell = true ∧ o + new.length ≤ cs.length then .val (.int .i64 ((min n dl : Nat) : Int)) (H.set b (.row (setL cs o new) u true)) else .no
        | none => .no
      | _ => .no
    | .slice none 0 0, some _ => .val (.int .i64 0) H
    | _, _ => .no
  | .mm big xs =>
    match xs.map (aev e) with
    | [] => .no
    | x :: l => ofO (mmL big x l) H
  | .callv f args =>
    match aev e f with
    | .func (.func f) first captured => .call f (first.toList ++ args.map (aev e) ++ captured.toList)
    | _ => .no
  | .panic x =>
    match aev e x with
    | .iface t v => .pan (.iface t v)
    | _ => .no

abbrev CallFn := FuncId → List Value → Heap → Option (FRes × Heap)

def putO (e : Env) (d : Option Nat) (v : Value) : Env :=
  match d with
  | some d => put e d v
  | none => e

def wantedA (e : Env) : Option (Nat × Bool) → Option Bool
  | none => some true
  | some (t, want) =>
    match get e t with
    | .bool b => some (b == want)
    | _ => some false

/-- Do a load's cells and a store's lie apart? -/
def apart2 (H : Heap) (x : Value) (n : Nat) (y : Value) (m : Nat) : Bool :=
  match x, y with
  | .pointer (some ⟨b, o, none⟩), .pointer (some ⟨c, p, none⟩) =>
    (match hget H c with
      | .row cs _ true => decide (p + m ≤ cs.length)
      | _ => false) &&
    (if b = c then decide (o + n ≤ p) || decide (p + m ≤ o) else (hget H b).live)
  | _, _ => false

def apartOK (e : Env) (H : Heap) (op : AOp) : List (Nat × Nat) → Bool
  | [] => true
  | (t, m) :: l =>
    (match op with
      | .load1 x => apart2 H (aev e x) 1 (get e t) m
      | .loadN n x => apart2 H (aev e x) n (get e t) m
      | _ => false) && apartOK e H op l

def evalOps (cf : CallFn) : List AOper → Env → Heap → Option (AExit × Env × Heap)
  | [], e, H => some (.norm, e, H)
  | o :: rest, e, H =>
    match wantedA e o.guard with
    | none => none
    | some false => evalOps cf rest (putO e o.dst undef) H
    | some true =>
      if apartOK e H o.op o.chk = false then none else
      match aop e H o.op with
      | .val v H' => evalOps cf rest (putO e o.dst v) H'
      | .skip H' => evalOps cf rest (putO e o.dst undef) H'
      | .call f args =>
        match cf f args H with
        | some (.ret v, H') => evalOps cf rest (putO e o.dst v) H'
        | some (.pan v, H') => some (.pan v, e, H')
        | none => none
      | .pan v => some (.pan v, e, H)
      | .no => none

def iter : Nat → (Env → Heap → Option (AExit × Env × Heap)) → Env → Heap → Option (AExit × Env × Heap)
  | 0, _, _, _ => none
  | k + 1, f, e, H =>
    match f e H with
    | some (.norm, e', H') => iter k f e' H'
    | r => r

def evalCode (cf : CallFn) (k : Nat) : ACode → Env → Heap → Option (AExit × Env × Heap)
  | .skip, e, H => some (.norm, e, H)
  | .ops l, e, H => evalOps cf l e H
  | .seq a b, e, H =>
    match evalCode cf k a e H with
    | some (.norm, e', H') => evalCode cf k b e' H'
    | r => r
  | .cond c a b, e, H =>
    match aev e c with
    | .bool true => evalCode cf k a e H
    | .bool false => evalCode cf k b e H
    | _ => none
  | .block id c, e, H =>
    match evalCode cf k c e H with
    | some (.exit i, e', H') => if i = id then some (.norm, e', H') else some (.exit i, e', H')
    | r => r
  | .loop c, e, H => iter k (fun e H => evalCode cf k c e H) e H
  | .exit id, e, H => some (.exit id, e, H)
  | .ret, e, H => some (.ret, e, H)

def resultOf (e : Env) (H : Heap) : AResult → Option Value
  | .tmp t => some (get e t)
  | .cell1 t =>
    match get e t with
    | .pointer (some ⟨b, o, none⟩) =>
      match hget H b with
      | .row cs _ _ => cs[o]?
      | _ => none
    | _ => none
  | .cellN t n =>
    match get e t with
    | .pointer (some ⟨b, o, none⟩) =>
      match hget H b with
      | .row cs _ _ => if o + n ≤ cs.length then some (.agg (cutCells cs o n).toArray) else none
      | _ => none
    | _ => none

def resultsL (e : Env) (H : Heap) : List AResult → Option (List Value)
  | [] => some []
  | r :: l =>
    match resultOf e H r, resultsL e H l with
    | some v, some vs => some (v :: vs)
    | _, _ => none

def pack : List Value → Value
  | [v] => v
  | vs => .tuple vs.toArray

def finish (res : List AResult) : Option (AExit × Env × Heap) → Option (FRes × Heap)
  | some (.norm, e, H) | some (.ret, e, H) =>
    match resultsL e H res with
    | some vs => some (.ret (pack vs), H)
    | none => none
  | some (.pan v, _, H) => some (.pan v, H)
  | _ => none

abbrev Table := FuncId → Option AFunc

/-- The cells of a call, all of them from the first: the arguments, then nothing. -/
def pad : Nat → List Value → List Value
  | 0, l => l
  | n + 1, [] => undef :: pad n []
  | n + 1, v :: l => v :: pad n l

def evalFn (T : Table) : Nat → CallFn
  | 0 => fun _ _ _ => none
  | k + 1 => fun f args H =>
    match T f with
    | some (.code n body res) => if args.length ≤ n then finish res (evalCode (evalFn T k) k body (pad n args) H) else none
    | some (.ext g) => (g args).map fun v => (.ret v, H)
    | none => none

/-! ### From the model's code -/

def okO (N G : Nat) : Operand → Bool
  | .tmp t => t < N
  | .const v => closedV v
  | .global g => g < G
  | .func _ => true

def descOf (P : Program) (t : TypeId) : Option TypeDesc := P.underlying t

def szOf (P : Program) (t : TypeId) : Option Nat := (P.info? t).map (·.size)

def bytesOfT (P : Program) (t : TypeId) : Option Nat := (P.info? t).map (·.bytes)

def zeroOf (P : Program) (t : TypeId) : Option (List Value) :=
  match (P.info? t).bind (·.zero) with
  | some z => if closedV z then some (cellsOf z) else none
  | none => none

def aggT (P : Program) (t : TypeId) : Option Bool :=
  match P.underlying t with
  | some (.struct _) | some (.array _ _) => some true
  | some _ => some false
  | none => none

/-- The flat places of a struct whose fields are all numbers, texts, bools: the place and the kind of each, in order. -/
def flatFields (fl : TypeId → Nat → Option (List (Nat × Nat))) (P : Program) (sz off : Nat) : List Field → Option (List (Nat × Nat))
  | [] => some []
  | f :: fs =>
    match szOf P f.type, flatFields fl P sz off fs with
    | some s, some m =>
      if f.name = "_" ∨ s = 0 ∨ ¬ f.offset + s ≤ sz then none else
      match fl f.type (off + f.offset) with
      | some l => some (l ++ m)
      | none => none
    | _, _ => none

def flatArr (fl : Nat → Option (List (Nat × Nat))) (s off : Nat) : List Nat → Option (List (Nat × Nat))
  | [] => some []
  | i :: l =>
    match fl (off + i * s), flatArr fl s off l with
    | some a, some m => some (a ++ m)
    | _, _ => none

def flatOf (P : Program) : Nat → TypeId → Nat → Option (List (Nat × Nat))
  | 0, _, _ => none
  | d + 1, t, off =>
    match P.underlying t with
    | some .bool => some [(off, 0)]
    | some (.int _) => some [(off, 1)]
    | some .string => some [(off, 2)]
    | some (.struct fs) =>
      if P.stoodInHeld t then none else
      match szOf P t with
      | some sz => flatFields (flatOf P d) P sz off fs.toList
      | none => none
    | some (.array n el) =>
      match szOf P el, szOf P t with
      | some s, some sz => if n * s ≤ sz ∧ s ≠ 0 then flatArr (flatOf P d el) s off (List.range' 0 n) else none
      | _, _ => none
    | _ => none

end Go.Proofs.YtedemfmafdilmaaDoor.Ev
