/- From the model's code to the evaluator's: each operation with its sizes and places looked up. Conditions: none; these are definitions. -/
import Derived.Test.YtedemfmafdilmaaDoorEvA
namespace Go.Proofs.YtedemfmafdilmaaDoor.Ev

def optOk (N G : Nat) : Option Operand → Bool
  | none => true
  | some x => okO N G x

def guardO {α : Type} (b : Bool) (x : Option α) : Option α := if b then x else none

def partsOf (P : Program) (N G : Nat) (place : Nat → Option (Nat × Nat)) (parts : List (Nat × Operand)) : Option (List (Nat × Nat × Operand)) :=
  match parts with
  | [] => some []
  | (i, x) :: l =>
    match place i, partsOf P N G place l with
    | some (o, n), some m => if okO N G x then some ((o, n, x) :: m) else none
    | _, _ => none

def placesOf (P : Program) (fs : List Field) : Option (List (Nat × Nat)) :=
  match fs with
  | [] => some []
  | f :: l =>
    match szOf P f.type, placesOf P l with
    | some s, some m => some ((f.offset, s) :: m)
    | _, _ => none

def fitsFlat (P : Program) (t : TypeId) : Option (List (Nat × Nat)) :=
  if P.eqGuardType P.depth t then none else flatOf P 12 t 0

def isNeq : BinOp → Bool
  | .neq => true
  | _ => false

def prepBin (P : Program) (op : BinOp) (t : TypeId) (x y : Operand) : Option AOp :=
  match op with
  | .eql | .neq =>
    match P.underlying t with
    | some (.int _) | some .string => some (.bin op x y)
    | some .bool => some (.eqb (isNeq op) x y)
    | some (.pointer el) =>
      match szOf P el with
      | some (_ + 1) => some (.eqp 0 (isNeq op) x y)
      | _ => none
    | some (.slice _) => some (.eqp 1 (isNeq op) x y)
    | some (.func _ _ _) => some (.eqp 2 (isNeq op) x y)
    | some (.struct _) | some (.array _ _) => match fitsFlat P t, szOf P t with
      | some l, some sz => some (.eqs (isNeq op) sz l x y)
      | _, _ => none
    | _ => none
  | _ => some (.bin op x y)

def prepCall (P : Program) (N G : Nat) (c : Call) : Option AOp :=
  if !(c.args.toList.all (okO N G)) then none else
  match c.callee with
  | .value f => if okO N G f then some (.callv f c.args.toList) else none
  | .invoke _ _ => none
  | .builtin .len =>
    match c.argTypes[0]?, c.args.toList with
    | some t, [x] =>
      match P.underlying t with
      | some .string => some (.lenStr x)
      | some (.slice _) => some (.lenSl x)
      | some (.array n _) => some (.lenK n)
      | some (.pointer a) =>
        match P.underlying a with
        | some (.array n _) => some (.lenK n)
        | _ => none
      | _ => none
    | _, _ => none
  | .builtin .append =>
    match c.argTypes[0]?, c.argTypes[1]?, c.args.toList with
    | some t, some u, [s, x] =>
      match P.underlying t, P.underlying u with
      | some (.slice el), some (.slice _) | some (.slice el), some .string =>
        match szOf P el, bytesOfT P el, zeroOf P el with
        | some (n + 1), some (b + 1), some z => if z.length = n + 1 then some (.append (n + 1) (b + 1) s x) else none
        | _, _, _ => none
      | _, _ => none
    | _, _, _ => none
  | .builtin .copy =>
    match c.argTypes[0]?, c.args.toList with
    | some t, [d, s] =>
      match P.underlying t with
      | some (.slice el) => (szOf P el).map fun n => .copy n d s
      | _ => none
    | _, _ => none
  | .builtin .max => some (.mm true c.args.toList)
  | .builtin .min => some (.mm false c.args.toList)
  | .builtin .panic =>
    match c.args.toList with
    | [x] => some (.panic x)
    | _ => none
  | _ => none

def prepOp (P : Program) (N G : Nat) (op : Op) : Option AOp :=
  match op with
  | .move x | .assign x => if okO N G x then some (.mov x) else none
  | .pick c a b => if okO N G c && okO N G a && okO N G b then some (.pick c a b) else none
  | .alloc t => (zeroOf P t).map .alloc
  | .box _ x => if okO N G x then some (.box x) else none
  | .build t parts =>
    match zeroOf P t, P.underlying t with
    | some z, some (.struct fs) =>
      match placesOf P fs.toList with
      | some pl => (partsOf P N G (fun i => pl[i]?) parts.toList).map (.build z)
      | none => none
    | some z, some (.array _ el) =>
      match szOf P el with
      | some s => (partsOf P N G (fun i => some (i * s, s)) parts.toList).map (.build z)
      | none => none
    | _, _ => none
  | .buildSlice t len parts =>
    match P.underlying t with
    | some (.slice el) =>
      match szOf P el, zeroOf P el with
      | some s, some z =>
        if 0 < s ∧ z.length = s ∧ 0 < len ∧ len * s ≤ 65536 then
          (partsOf P N G (fun i => some (i * s, s)) parts.toList).map (.buildSlice s len (List.replicate len z).flatten)
        else if 0 < s ∧ len = 0 then
          (partsOf P N G (fun i => some (i * s, s)) parts.toList).map (.buildSlice s len [])
        else none
      | _, _ => none
    | _ => none
  | .load t x =>
    if okO N G x then
      match aggT P t, szOf P t with
      | some true, some n => some (.loadN n x)
      | some false, _ => some (.load1 x)
      | _, _ => none
    else none
  | .store t a x => if okO N G a && okO N G x then (szOf P t).map fun n => .store n a x else none
  | .nilCheck x => if okO N G x then some (.nilChk x) else none
  | .binOp op t x y _ => if okO N G x && okO N G y then prepBin P op t x y else none
  | .unOp op _ x => if okO N G x then some (.un op x) else none
  | .convert src dst x =>
    if okO N G x then
      match P.underlying src, P.underlying dst with
      | some (.int _), some (.int k) => some (.conv k x)
      | some .string, some .string => some (.idStr x)
      | some .string, some (.slice el) =>
        match P.underlying el with
        | some (.int .u8) => some (.s2b x)
        | _ => none
      | some (.slice el), some .string =>
        match P.underlying el with
        | some (.int .u8) => some (.b2s x)
        | _ => none
      | _, _ => none
    else none
  | .makeInterface t x =>
    if okO N G x then
      match P.underlying t with
      | some (.interface _) => none
      | some _ => some (.mkIface t x)
      | none => none
    else none
  | .makeFunc (.func f) first captured => if first.toList.all (okO N G) && captured.toList.all (okO N G) then some (.mkFunc f first.toList captured.toList) else none
  | .makeSlice t l c =>
    if okO N G l && okO N G c then
      match P.underlying t with
      | some (.slice el) =>
        match szOf P el, bytesOfT P el, zeroOf P el with
        | some s, some b, some z => if 0 < s ∧ z.length = s then some (.mkSlice s b z l c) else none
        | _, _, _ => none
      | _ => none
    else none
  | .slice t x lo hi none =>
    if okO N G x && optOk N G lo && optOk N G hi then
      match P.underlying t with
      | some .string => some (.slStr x lo hi)
      | some (.slice el) => (szOf P el).map fun s => .slSl s x lo hi
      | some (.array n el) => (szOf P el).map fun s => .slArr n s x lo hi
      | some (.pointer a) =>
        match P.underlying a with
        | some (.array n el) => (szOf P el).map fun s => .slArr n s x lo hi
        | _ => none
      | _ => none
    else none
  | .fieldAddr t x i =>
    if okO N G x then
      match P.underlying t with
      | some (.struct fs) =>
        match fs[i]? with
        | some f =>
          match szOf P f.type with
          | some (_ + 1) => some (.fAddr f.offset x)
          | _ => none
        | none => none
      | _ => none
    else none
  | .field t x i =>
    if okO N G x then
      match P.underlying t with
      | some (.struct fs) =>
        match fs[i]? with
        | some f =>
          match aggT P f.type, szOf P f.type with
          | some true, some n => some (.fieldN f.offset n x)
          | some false, _ => some (.field1 f.offset x)
          | _, _ => none
        | none => none
      | _ => none
    else none
  | .indexAddr t x i =>
    if okO N G x && okO N G i then
      match P.underlying t with
      | some (.array n el) => (szOf P el).map fun s => .iAddrArr n s x i
      | some (.slice el) => (szOf P el).map fun s => .iAddrSl s x i
      | _ => none
    else none
  | .index t x i =>
    if okO N G x && okO N G i then
      match P.underlying t with
      | some .string => some (.idxStr x i)
      | some (.array n el) =>
        match aggT P el, szOf P el with
        | some true, some s => some (.idxArrN n s x i)
        | some false, some 1 => some (.idxArr1 n x i)
        | _, _ => none
      | _ => none
    else none
  | .range t x =>
    if okO N G x then
      match P.underlying t with
      | some .string => some (.rng x)
      | _ => none
    else none
  | .next x true => if okO N G x then some (.nxt x) else none
  | .extract x i => if okO N G x then some (.extract x i) else none
  | .typeAssert x _ t false =>
    if okO N G x then
      match P.underlying t with
      | some (.interface _) => none
      | some _ => some (.tAssert t x)
      | none => none
    else none
  | .call c => prepCall P N G c
  | .panic x => if okO N G x then some (.panic x) else none
  | _ => none

def dstOk (N : Nat) : Option Nat → Bool
  | none => true
  | some d => d < N

def prepOper (P : Program) (N G : Nat) (ops : Array Oper) (o : Oper) (chk : List (Nat × Nat)) : Option AOper :=
  match prepOp P N G o.op with
  | none => none
  | some op =>
    if dstOk N o.dst && chk.all (fun c => decide (c.1 < N)) then
      match o.guard with
      | none => some ⟨o.dst, op, none, chk⟩
      | some (j, want) =>
        match (ops[j]?).bind (·.dst) with
        | some t => if t < N then some ⟨o.dst, op, some (t, want), chk⟩ else none
        | none => none
    else none

def prepOps (P : Program) (N G : Nat) (ops : Array Oper) : List (Nat × List (Nat × Nat)) → Option (List AOper)
  | [] => some []
  | (i, chk) :: l =>
    match ops[i]? with
    | none => none
    | some o =>
      match prepOper P N G ops o chk, prepOps P N G ops l with
      | some a, some m => some (a :: m)
      | _, _ => none

/-! Regions that draw their order. -/

/-- An operation that asks no more of the world than to read cells, and leaves it alone. -/
def stillOp (P : Program) : Op → Bool
  | .move _ | .assign _ | .pick _ _ _ | .load _ _ | .extract _ _ | .nilCheck _ | .unOp _ _ _ | .fieldAddr _ _ _ | .indexAddr _ _ _ | .index _ _ _ | .makeInterface _ _ => true
  | .build _ _ => true
  | .field _ _ _ => true
  | .makeFunc _ _ _ => true
  | .slice t _ _ _ none =>
    match P.underlying t with
    | some .string | some (.slice _) | some (.array _ _) => true
    | _ => false
  | .binOp op t _ _ _ =>
    match P.underlying t with
    | some .bool | some (.int _) | some .string => true
    | _ =>
      match op with
      | .eql | .neq => false
      | _ => false
  | .convert s d _ =>
    match P.underlying s, P.underlying d with
    | some (.int _), some (.int _) => true
    | some .string, some .string => true
    | _, _ => false
  | .call c =>
    match c.callee with
    | .builtin .len =>
      match (c.argTypes[0]?).bind P.underlying with
      | some .string | some (.slice _) | some (.array _ _) => true
      | _ => false
    | _ => false
  | _ => false

def directOn (ops : Array Oper) (j i : Nat) : Bool :=
  match ops[j]? with
  | some o => o.after.any fun e => Region.binds .any e && e.on == i
  | none => false

def isLoad : Op → Bool
  | .load _ _ => true
  | _ => false

/-- One step of the canonical order: the first operation that is ready, still and no load; else the first load; else the only one that is ready. -/
def pickNext (P : Program) (ops : Array Oper) (listed : Array Bool) : Option Nat :=
  match (Region.ready .any ops listed).find? fun i => match ops[i]? with | some o => stillOp P o.op && !isLoad o.op | none => false with
  | some i => some i
  | none =>
    match (Region.ready .any ops listed).find? fun i => match ops[i]? with | some o => stillOp P o.op | none => false with
    | some i => some i
    | none =>
      match Region.ready .any ops listed with
      | [i] => some i
      | _ => none

/-- No operation that is not yet listed writes the slot. -/
def unwritten (ops : Array Oper) (listed : Array Bool) (t : Nat) : Bool :=
  (List.range ops.size).all fun k => listed.getD k true || (match ops[k]? with | some o => o.dst != some t | none => true)

/-- What must lie apart from what the load i reads: the places that stores not behind it write; none: it can't be told. -/
def chkOf (P : Program) (ops : Array Oper) (bef : Array Nat) (listed : Array Bool) (i : Nat) : List Nat → Option (List (Nat × Nat))
  | [] => some []
  | j :: l =>
    match chkOf P ops bef listed i l with
    | none => none
    | some m =>
      if j == i || listed.getD j true || (bef.getD j 0).testBit i then some m else
      match ops[j]? with
      | none => some m
      | some o =>
        if stillOp P o.op then some m else
        match o.op with
        | .store t (.tmp a) _ => if unwritten ops listed a then (szOf P t).map fun n => (a, n) :: m else none
        | _ => none

def okOrder (P : Program) (ops : Array Oper) (bef : Array Nat) : List (Nat × List (Nat × Nat)) → Array Bool → Bool
  | [], listed => (Region.ready .any ops listed).isEmpty
  | (i, chk) :: l, listed =>
    (match ops[i]? with
      | some o =>
        if stillOp P o.op then
          (Region.ready .any ops listed).contains i && Region.free .any ops listed i &&
          (if isLoad o.op then (match chkOf P ops bef listed i (List.range ops.size) with | some c => c == chk | none => false) else chk.isEmpty)
        else (Region.ready .any ops listed == [i]) && chk.isEmpty
      | none => false) && okOrder P ops bef l (listed.setIfInBounds i true)

def orderGo (P : Program) (ops : Array Oper) (bef : Array Nat) : Nat → Array Bool → List (Nat × List (Nat × Nat))
  | 0, _ => []
  | k + 1, listed =>
    match pickNext P ops listed with
    | some i => (i, match ops[i]? with
        | some o => if isLoad o.op then (match chkOf P ops bef listed i (List.range ops.size) with | some c => c | none => []) else []
        | none => []) :: orderGo P ops bef k (listed.setIfInBounds i true)
    | none => []

def orderOf (P : Program) (ops : Array Oper) : List (Nat × List (Nat × Nat)) := orderGo P ops (Region.before ops) ops.size (Array.replicate ops.size false)

def prepRegion (P : Program) (N G : Nat) (ops : Array Oper) (draw : Bool) : Option ACode :=
  if draw then
    if (orderOf P ops).length = ops.size ∧ Region.noSelect ops = true ∧ okOrder P ops (Region.before ops) (orderOf P ops) (Array.replicate ops.size false) = true then
      (prepOps P N G ops (orderOf P ops)).map .ops
    else none
  else (prepOps P N G ops ((List.range ops.size).map fun i => (i, []))).map .ops

def prepCode (P : Program) (N G : Nat) : Code → Option ACode
  | .skip => some .skip
  | .region _ ops draw => prepRegion P N G ops draw
  | .seq a b =>
    match prepCode P N G a, prepCode P N G b with
    | some x, some y => some (.seq x y)
    | _, _ => none
  | .cond c a b =>
    if okO N G c then
      match prepCode P N G a, prepCode P N G b with
      | some x, some y => some (.cond c x y)
      | _, _ => none
    else none
  | .block id c => (prepCode P N G c).map (.block id)
  | .loop c => (prepCode P N G c).map .loop
  | .exit id => some (.exit id)
  | .ret => some .ret
  | _ => none

def prepRes (P : Program) (N : Nat) : List ResultVar → Option (List AResult)
  | [] => some []
  | .tmp t :: l =>
    match prepRes P N l with
    | some m => if t < N then some (.tmp t :: m) else none
    | none => none
  | .cell a t :: l =>
    match prepRes P N l, aggT P t, szOf P t with
    | some m, some true, some n => if a < N then some (.cellN a n :: m) else none
    | some m, some false, _ => if a < N then some (.cell1 a :: m) else none
    | _, _, _ => none

def prepFn (P : Program) (G : Nat) (fn : Func) : Option AFunc :=
  match fn.body with
  | none => none
  | some c =>
    if fn.name == "runtime.NumGoroutine" then none else
    match prepCode P fn.ntmps G c, prepRes P fn.ntmps fn.results.toList with
    | some b, some r => some (.code fn.ntmps b r)
    | _, _ => none

end Go.Proofs.YtedemfmafdilmaaDoor.Ev
