/- The abstract machine: operations, regions, code, calls. -/
import Derived.Test.YtmppkccbjmeihaaGreatAb1
namespace Go.Abs
set_option autoImplicit true
set_option relaxedAutoImplicit true
set_option linter.unusedVariables false
set_option linter.unusedSimpArgs false
set_option linter.unusedSectionVars false

abbrev Handler := FuncId → List AVal → St → Option (AVal × St)
abbrev Env := List (Nat × AVal)

def lk (F : Fr) (t : Nat) : Env → Option AVal
  | [] => F.get t
  | (d, v) :: E => bsel (Nat.beq d t) (some v) (lk F t E)
def evo (F : Fr) (E : Env) (x : Operand) : Option AVal :=
  Operand.casesOn x (fun t => lk F t E) (fun v => ofV v) (fun _ => none) (fun f => some (.fn f []))
def evos (F : Fr) (E : Env) : List Operand → Option (List AVal)
  | [] => some []
  | x :: l => oget (evo F E x) fun v => oget (evos F E l) fun l => some (v :: l)

def truth (orc : SB → Option Bool) : AVal → Option Bool
  | .bool b => some b
  | .symb c => orc c
  | _ => none

def isK (a b : IntKind) : Bool :=
  match a, b with
  | .i8, .i8 | .i16, .i16 | .i32, .i32 | .i64, .i64 | .u8, .u8 | .u16, .u16 | .u32, .u32 | .u64, .u64 => true
  | _, _ => false

/-- The greatest number of a kind. -/
def maxI (k : IntKind) : Int :=
  match k with
  | .i8 => 127 | .i16 => 32767 | .i32 => 2147483647 | .i64 => 9223372036854775807 | .u8 => 255 | .u16 => 65535 | .u32 => 4294967295 | .u64 => 18446744073709551615
def bitsN (k : IntKind) : Nat :=
  match k with
  | .i8 => 8 | .i16 => 16 | .i32 => 32 | .i64 => 64 | .u8 => 8 | .u16 => 16 | .u32 => 32 | .u64 => 64
/-- Bits, quotients, shifts, of numbers not below 0. -/
def ibits (op : BinOp) (k : IntKind) (x y : Int) : Option AVal :=
  match x, y with
  | .ofNat a, .ofNat b =>
    match op with
    | .and => bsel (leI (.ofNat a) (maxI k)) (bsel (leI (.ofNat b) (maxI k)) (forceN (Nat.land a b) fun n => some (.int k (.ofNat n))) none) none
    | .or => bsel (leI (.ofNat a) (maxI k)) (bsel (leI (.ofNat b) (maxI k)) (forceN (Nat.lor a b) fun n => some (.int k (.ofNat n))) none) none
    | .xor => bsel (leI (.ofNat a) (maxI k)) (bsel (leI (.ofNat b) (maxI k)) (forceN (Nat.xor a b) fun n => some (.int k (.ofNat n))) none) none
    | .quo => bsel (Nat.beq b 0) none (intV k (.ofNat (Nat.div a b)))
    | .rem => bsel (Nat.beq b 0) none (forceN (Nat.mod a b) fun n => some (.int k (.ofNat n)))
    | .shl => intV k (.ofNat (Nat.mul a (Nat.pow 2 (bsel (Nat.ble b (bitsN k)) b (bitsN k)))))
    | .shr => forceN (Nat.div a (Nat.pow 2 (bsel (Nat.ble b (bitsN k)) b (bitsN k)))) fun n => some (.int k (.ofNat n))
    | _ => none
  | _, _ => none

def isShift : BinOp → Bool
  | .shl | .shr => true
  | _ => false

def isSliceT (P : Program) (t : TypeId) : Bool := match P.underlying t with | some (.slice _) => true | _ => false
def isStringT (P : Program) (t : TypeId) : Bool := match P.underlying t with | some .string => true | _ => false
def isPtrT (P : Program) (t : TypeId) : Bool := match P.underlying t with | some (.pointer _) => true | _ => false
def isFuncT (P : Program) (t : TypeId) : Bool := match P.underlying t with | some (.func ..) => true | _ => false
def isIfaceT (P : Program) (t : TypeId) : Bool := match P.underlying t with | some (.interface _) => true | _ => false
def isIntT (P : Program) (t : TypeId) : Option IntKind := match P.underlying t with | some (.int k) => some k | _ => none

def isSelect : Op → Bool
  | .select .. => true
  | _ => false
/-- Are these all without memory? -/
def plains : List AVal → Option Unit
  | [] => some ()
  | v :: l => oget (toV v) fun _ => plains l
/-- An operand as the machine has it. -/
def conc (F : Fr) (E : Env) (x : Operand) : Value := match (evo F E x).bind toV with | some v => v | none => undef
/-- By the machine's own words, where no memory is in it. -/
def generic (P : Program) (F : Fr) (E : Env) (o : Oper) : Option AVal :=
  bsel (isSelect o.op) none (oget (evos F E o.op.operands.toList) fun vs => oget (plains vs) fun _ =>
    match pureRun P (execOp (conc F E) o) with
    | some (.value v) => ofV v
    | _ => none)

def isDiv : BinOp → Bool
  | .quo | .rem => true
  | _ => false
/-- An operation on numbers that are not known. -/
def asym (op : BinOp) (k k' : IntKind) (x y : SE) : Option AVal :=
  bsel (isCmp op) (bsel (isK k k') (some (.symb (.cmp op x y))) none)
    (bsel (isArith op) (bsel (isK k k') (some (.sym k (.bin op k k' x y))) none)
      (match y with
        | .lit (.ofNat n) => bsel (isShift op) (some (.sym k (.bin op k k' x y)))
            (bsel (isDiv op) (bsel (isK k k') (bsel (Nat.beq n 0) none (some (.sym k (.bin op k k' x y)))) none) none)
        | _ => none))
def eqNil (op : BinOp) (b : Bool) : Option AVal :=
  match op with
  | .eql => some (.bool b)
  | .neq => some (.bool (bsel b false true))
  | _ => none
def abin (P : Program) (F : Fr) (E : Env) (o : Oper) (op : BinOp) (T : TypeId) (a b : AVal) : Option AVal :=
  match a, b with
  | .int k x, .int k' y =>
    bsel (isShift op) (match ibits op k x y with | some v => some v | none => generic P F E o)
      (bsel (isK k k') (match ibin op k x y with | some v => some v | none => match ibits op k x y with | some v => some v | none => generic P F E o) none)
  | .int k x, .sym k' y => asym op k k' (.lit x) y
  | .sym k x, .int k' y => asym op k k' x (.lit y)
  | .sym k x, .sym k' y => asym op k k' x y
  | .slice x _ _ _, .slice none 0 0 0 => bsel (isSliceT P T) (eqNil op x.isNone) none
  | .eslice, .slice none 0 0 0 => bsel (isSliceT P T) (eqNil op false) none
  | .ptr x, .ptr none => bsel (isPtrT P T) (eqNil op x.isNone) none
  | .fn _ _, .nilFn => bsel (isFuncT P T) (eqNil op false) none
  | .iface _ _, .nilIface => bsel (isIfaceT P T) (eqNil op false) none
  | _, _ => generic P F E o

/-- Cells put at a place of a list. -/
def putAt (l : List AVal) (off : Nat) (vs : List AVal) : List AVal := l.take off ++ vs ++ l.drop (off + vs.length)
def fillS (pl : List (Nat × Nat)) (l : List AVal) (F : Fr) (E : Env) : List (Nat × Operand) → Option (List AVal)
  | [] => some l
  | (i, x) :: ps => oget (evo F E x) fun v => oget pl[i]? fun p =>
    bsel (Nat.beq v.cells.length p.2) (bsel (Nat.ble (p.1 + p.2) l.length) (fillS pl (putAt l p.1 v.cells) F E ps) none) none
def fillA (es : Nat) (l : List AVal) (F : Fr) (E : Env) : List (Nat × Operand) → Option (List AVal)
  | [] => some l
  | (i, x) :: ps => oget (evo F E x) fun v =>
    bsel (Nat.beq v.cells.length es) (bsel (Nat.ble (i * es + es) l.length) (fillA es (putAt l (i * es) v.cells) F E ps) none) none

def isCell : AVal → Bool
  | .agg _ | .tuple _ => false
  | _ => true
def allCells : List AVal → Bool
  | [] => true
  | v :: l => bsel (isCell v) (allCells l) false

/-- A bound of a slice: a number from 0 to most. -/
def bound (v : AVal) (most : Nat) (k : Nat → Option AVal) : Option AVal :=
  match v with
  | .int _ (.ofNat n) => bsel (Nat.ble n most) (k n) none
  | _ => none
def boundOr (F : Fr) (E : Env) (x : Option Operand) (d most : Nat) (k : Nat → Option AVal) : Option AVal :=
  match x with
  | none => k d
  | some x => oget (evo F E x) fun v => bound v most k
def aslice (P : Program) (F : Fr) (E : Env) (T : TypeId) (v : AVal) (lo hi mx : Option Operand) : Option AVal :=
  match v with
  | .str s =>
    match mx with
    | none => bsel (isStringT P T) (boundOr F E hi s.size s.size fun h => boundOr F E lo 0 h fun l => some (.str (s.extract l h))) none
    | some _ => none
  | .eslice =>
    match mx with
    | none => oget (eltSize P T) fun _ => boundOr F E hi 0 0 fun h => boundOr F E lo 0 h fun _ => some .eslice
    | some _ => none
  | .slice a len cap opn =>
    oget (eltSize P T) fun es =>
    match mx with
    | some m => boundOr F E (some m) 0 cap fun m => oget hi fun h => boundOr F E (some h) 0 m fun h => boundOr F E lo 0 h fun l =>
      (match a with
        | none => some (.slice none 0 0 0)
        | some (b, i) => bsel (Nat.beq m l) (forceN (h - l) fun n => some (.slice (some (b, i)) n 0 0))
            (forceN (h - l) fun n => forceN (m - l) fun c => forceN (i + l * es) fun i => some (.slice (some (b, i)) n c 0)))
    | none => boundOr F E hi len cap fun h => boundOr F E lo 0 h fun l =>
      (match a with
        | none => some (.slice none 0 0 0)
        | some (b, i) => bsel (Nat.beq cap l)
            (bsel (Nat.beq opn 0) (forceN (h - l) fun n => some (.slice (some (b, i)) n 0 0)) (bsel (Nat.beq l 0) (some (.slice (some (b, i)) 0 0 opn)) (some .eslice)))
            (bsel (bsel (Nat.beq opn 0) true (Nat.beq opn es)) (forceN (h - l) fun n => forceN (cap - l) fun c => forceN (i + l * es) fun i => some (.slice (some (b, i)) n c opn)) none))
  | _ => none

def bytesOfStr (s : ByteArray) : List AVal := s.data.toList.map fun b => .int .u8 b.toNat
def strOf : List AVal → Option (List UInt8)
  | [] => some []
  | .int .u8 n :: l => oget (strOf l) fun r => some (UInt8.ofNat n.toNat :: r)
  | _ => none

def isU8 (P : Program) (t : TypeId) : Bool :=
  match P.underlying t with
  | some (.slice e) => match P.underlying e with
    | some (.int .u8) => true
    | _ => false
  | _ => false

/-- Is this block a row of cells? -/
def St.alive (S : St) (b : Nat) : Option Unit := oget (S.blk b) fun B => match B with | .cells .. => some () | _ => none
/-- What an append puts behind: the cells, how many elements. -/
def appended (P : Program) (S : St) (T xT : TypeId) (es by_ : Nat) (x : AVal) : Option (List AVal × Nat) :=
  match x with
  | .slice none _ _ _ => bsel (isSliceT P xT) (some ([], 0)) none
  | .slice (some (b, i)) n _ _ => bsel (isSliceT P xT) (oget (S.loads b i (n * es)) fun l => bsel (allCells l) (some (l, n)) none) none
  | .eslice => bsel (isSliceT P xT) (some ([], 0)) none
  | .str s => bsel (isStringT P xT) (bsel (Nat.beq es 1) (some (bytesOfStr s, s.size)) none) none
  | .int _ (.ofNat n) =>
    oget (isIntT P xT) fun _ => oget (eltZero P T) fun z => bsel (Nat.beq z.length es) (bsel (Nat.ble (n * by_) 281474976710656) (bsel (Nat.ble n 281474976710656) (bsel (allCells z) (some ((List.replicate n z).flatten, n)) none) none) none) none
  | _ => none
def aappend (P : Program) (S : St) (c : Call) (s x : AVal) : Option (AVal × St) :=
  match c.argTypes.toList with
  | [T, xT] => oget (eltSize P T) fun es => oget (eltBytes P T) fun by_ => oget (eltZero P T) fun z =>
    bsel (Nat.beq es 0) none (bsel (Nat.beq z.length es) (oget (appended P S T xT es by_ x) fun r =>
    match s with
    | .slice none _ _ _ =>
      bsel (Nat.beq r.2 0) (some (.slice none 0 0 0, S))
        (bsel (Nat.ble ((2 * r.2 + 768) * by_) 281474976710656) (bsel (Nat.ble r.2 281474976710656) (oget (S.new (mkCells r.1)) fun q => some (.slice (some (q.1, 0)) r.2 r.2 es, q.2)) none) none)
    | .slice (some (b, i)) len cap opn =>
      forceN (len + r.2) fun need =>
      bsel (Nat.ble need cap)
        (oget (S.stores b (i + len * es) r.1) fun S => some (.slice (some (b, i)) need cap opn, S))
        (bsel (Nat.ble ((2 * need + 768) * by_) 281474976710656) (bsel (Nat.ble need 281474976710656)
          (oget (S.loads b i (len * es)) fun old =>
            bsel (Nat.beq opn 0)
              (oget (S.new (mkCells (old ++ r.1))) fun q => some (.slice (some (q.1, 0)) need need es, q.2))
              (bsel (Nat.beq opn es) (oget (S.alive b) fun _ => oget (S.setBlk b .dead) fun S => oget (S.new (mkCells (old ++ r.1))) fun q => some (.slice (some (q.1, 0)) need need es, q.2)) none)) none) none)
    | _ => none) none)
  | _ => none

/-- What a map has at a key. -/
def lookupA (P : Program) (T : TypeId) (es : Array MapEntry) (k : Value) (ok : Bool) : Option AVal :=
  match P.underlying T with
  | some (.map key elem) => oget (pureRun P (Instr.checkKey es.isEmpty 10000 key k)) fun _ => oget (pureRun P (Instr.findKey key k es.toList)) fun r =>
    match r with
    | some (_, v) => bsel ok (oget (ofScalar v) fun v => some (.tuple [v, .bool true])) (ofScalar v)
    | none => oget (P.info? elem) fun i => oget i.zero fun v => bsel ok (oget (ofScalar v) fun v => some (.tuple [v, .bool false])) (ofScalar v)
  | _ => none
/-- A map with a key more, or another value. -/
def updateA (P : Program) (T : TypeId) (es : Array MapEntry) (cl : Nat) (k v : Value) : Option (Array MapEntry × Nat) :=
  match P.underlying T with
  | some (.map key _) => oget (pureRun P (Instr.checkKey false 10000 key k)) fun _ => oget (pureRun P (Instr.findKey key k es.toList)) fun r =>
    match r with
    | some (i, _) => oget (pureRun P (Instr.keyThatStays (((es[i]?).map (·.key)).getD k) k)) fun k => some (es.modify i fun e => { e with key := k, val := v }, cl)
    | none => some (es.push { key := k, val := v, born := cl }, cl + 1)
  | _ => none

def callAny (C : Handler) (P : Program) (F : Fr) (E : Env) (S : St) (o : Oper) (c : Call) : Option (AVal × St) :=
  match c.callee with
  | .value f => oget (evo F E f) fun fv =>
    match fv with
    | .fn f caps => oget (evos F E c.args.toList) fun as =>
      match P.funcs[f]? with
      | some fn => bsel fn.body.isSome (C f (as ++ caps) S) (oget (generic P F E o) fun v => some (v, S))
      | none => none
    | _ => none
  | .builtin .len => oget c.argTypes[0]? fun T => match c.args.toList with
    | [x] => oget (evo F E x) fun v =>
      match v with
      | .slice _ n _ _ => bsel (isSliceT P T) (some (.int .i64 n, S)) none
      | .eslice => bsel (isSliceT P T) (some (.int .i64 0, S)) none
      | .str s => bsel (isStringT P T) (some (.int .i64 s.size, S)) none
      | _ => none
    | _ => none
  | .builtin .cap => oget c.argTypes[0]? fun T => match c.args.toList with
    | [x] => oget (evo F E x) fun v =>
      match v with
      | .slice _ _ n 0 => bsel (isSliceT P T) (some (.int .i64 n, S)) none
      | _ => none
    | _ => none
  | .builtin .append => match c.args.toList with
    | [s, x] => oget (evo F E s) fun s => oget (evo F E x) fun x => aappend P S c s x
    | _ => none
  | .builtin .copy => match c.args.toList, c.argTypes.toList with
    | [d, x], [T, _] => oget (evo F E d) fun d => oget (evo F E x) fun x => oget (eltSize P T) fun es =>
      bsel (Nat.beq es 1) (match d with
      | .slice none _ _ _ => (match x with
        | .slice .. => some (.int .i64 0, S)
        | _ => none)
      | .slice (some (b, i)) len _ _ =>
        (match x with
        | .slice none _ _ _ => some (.int .i64 0, S)
        | .slice (some (b', i')) len' _ _ => forceN (bsel (Nat.ble len' len) len' len) fun n => oget (S.loads b' i' n) fun l => bsel (allCells l) (oget (S.stores b i l) fun S => some (.int .i64 n, S)) none
        | _ => none)
      | _ => none) none
    | _, _ => none
  | .builtin .min | .builtin .max => oget (generic P F E o) fun v => some (v, S)
  | _ => none

/-- The size of an array type's elements. -/
def arrElt (P : Program) (t : TypeId) : Option Nat :=
  match P.underlying t with
  | some (.array _ e) => (P.info? e).map (·.size)
  | _ => none

/-- One operation: its value, the memory behind it. -/
def evOp (C : Handler) (P : Program) (orc : SB → Option Bool) (F : Fr) (E : Env) (S : St) (o : Oper) : Option (AVal × St) :=
  let pv (r : Option AVal) : Option (AVal × St) := oget r fun v => some (v, S)
  match o.op with
  | .move x | .assign x => pv (evo F E x)
  | .pick c a b => oget (evo F E c) fun c => oget (truth orc c) fun t => pv (bsel t (evo F E a) (evo F E b))
  | .alloc T => oget (typeZero P T) fun z => oget (S.new (mkCells z)) fun q => some (.ptr (some (q.1, 0)), q.2)
  | .box _ x => oget (evo F E x) fun v => oget (S.new (mkCells v.cells)) fun q => some (.ptr (some (q.1, 0)), q.2)
  | .build t ps => oget (typeZero P t) fun z =>
    match arrElt P t with
    | some es => oget (fillA es z F E ps.toList) fun l => some (.agg l, S)
    | none => oget (places P t) fun pl => oget (fillS pl z F E ps.toList) fun l => some (.agg l, S)
  | .buildSlice t n ps => oget (eltSize P t) fun es => oget (eltZero P t) fun z =>
    bsel (Nat.ble (n * es) 16777216) (bsel (Nat.beq z.length es) (oget (fillA es (List.replicate n z).flatten F E ps.toList) fun l =>
      oget (S.new (mkCells l)) fun q => some (.slice (some (q.1, 0)) n n 0, q.2)) none) none
  | .load t a => oget (evo F E a) fun a => oget (aggSize P t) fun z =>
    match a with
    | .ptr (some (b, i)) => (match z with
      | none => pv (S.load b i)
      | some n => oget (S.loads b i n) fun l => some (.agg l, S))
    | _ => none
  | .store t a x => oget (evo F E a) fun a => oget (evo F E x) fun v => oget (cellsOf? P t) fun n =>
    match a with
    | .ptr (some (b, i)) => bsel (Nat.beq v.cells.length n) (bsel (allCells v.cells) (oget (S.stores b i v.cells) fun S => some (.tuple [], S)) none) none
    | _ => none
  | .nilCheck x => oget (evo F E x) fun v =>
    match v with
    | .ptr (some a) => some (.ptr (some a), S)
    | .fn f cs => some (.fn f cs, S)
    | _ => none
  | .binOp op T x y _ => oget (evo F E x) fun a => oget (evo F E y) fun b => pv (abin P F E o op T a b)
  | .unOp op _ x => oget (evo F E x) fun v =>
    match op, v with
    | .not, .bool b => some (.bool (bsel b false true), S)
    | .not, .symb c => some (.symb (.not c), S)
    | _, _ => pv (generic P F E o)
  | .convert s d x => oget (evo F E x) fun v =>
    match v with
    | .int _ n => (match isIntT P d with
      | some k => oget (P.underlying s) fun _ => pv (intV k n)
      | none => pv (generic P F E o))
    | .sym _ e => oget (P.underlying s) fun _ => oget (isIntT P d) fun k => some (.sym k (.conv k e), S)
    | .slice (some a) len cap opn => bsel (isStringT P d)
        (bsel (isU8 P s) (oget (S.loads a.1 a.2 len) fun l => oget (strOf l) fun l => some (.str ⟨l.toArray⟩, S)) none)
        (bsel (Nat.beq s d) (bsel (isU8 P s) (oget (S.blk a.1) fun B => match B with | .cells .. => some (.slice (some a) len cap opn, S) | _ => none) none) none)
    | .slice none _ _ _ => bsel (isStringT P d) (bsel (isU8 P s) (some (.str .empty, S)) none) none
    | .str b => bsel (isStringT P d) (bsel (isStringT P s) (some (.str b, S)) none)
        (bsel (isStringT P s) (bsel (isU8 P d) (oget (S.new (mkCells (bytesOfStr b))) fun q => some (.slice (some (q.1, 0)) b.size b.size 1, q.2)) none) none)
    | _ => pv (generic P F E o)
  | .makeInterface T x => bsel (isIfaceT P T) none (oget (evo F E x) fun v => oget (P.underlying T) fun _ => some (.iface T v, S))
  | .makeFunc (.func f) first captured => bsel first.isEmpty (oget (evos F E captured.toList) fun cs => some (.fn f cs, S)) none
  | .makeMap _ none => oget (S.new (.amap #[] 0)) fun q => some (.map (some q.1), q.2)
  | .makeSlice t l c => oget (evo F E l) fun l => oget (evo F E c) fun c => oget (eltSize P t) fun es => oget (eltZero P t) fun z => oget (eltBytes P t) fun by_ =>
    match l, c with
    | .int _ (.ofNat l), .int _ (.ofNat c) => bsel (Nat.ble l c) (bsel (Nat.ble (c * by_) 140737488355328) (bsel (Nat.ble c 9223372036854775807) (bsel (Nat.beq z.length es) (oget (S.new (zeroCells c z)) fun q => some (.slice (some (q.1, 0)) l c 0, q.2)) none) none) none) none
    | _, _ => none
  | .slice T x lo hi mx => oget (evo F E x) fun v => pv (aslice P F E T v lo hi mx)
  | .fieldAddr s x f => oget (evo F E x) fun v => oget (fieldOff P s f) fun k =>
    match v with
    | .ptr (some (b, i)) => forceN (i + k) fun i => some (.ptr (some (b, i)), S)
    | _ => none
  | .field s x f => oget (evo F E x) fun v => oget (fieldAt? P s f) fun p =>
    match v with
    | .agg cs => (match p.2 with
      | some n => bsel (Nat.ble (p.1 + n) cs.length) (some (.agg ((cs.drop p.1).take n), S)) none
      | none => pv cs[p.1]?)
    | _ => none
  | .indexAddr T x i => oget (evo F E x) fun v => oget (evo F E i) fun i => oget (eltSize P T) fun es =>
    match v, i with
    | .slice (some (b, o)) len _ _, .int _ (.ofNat i) => bsel (Nat.blt i len) (forceN (o + i * es) fun j => some (.ptr (some (b, j)), S)) none
    | _, _ => none
  | .lookup T m k ok => oget (evo F E m) fun m => oget (evo F E k) fun k => oget (toV k) fun k =>
    match m with
    | .map none => pv (lookupA P T #[] k ok)
    | .map (some r) => oget (S.blk r) fun B => (match B with
      | .amap es _ => pv (lookupA P T es k ok)
      | _ => none)
    | _ => none
  | .mapUpdate T m k x => oget (evo F E m) fun m => oget (evo F E k) fun k => oget (toV k) fun k => oget (evo F E x) fun x => oget (toScalar x) fun x =>
    match m with
    | .map (some r) => oget (S.blk r) fun B => (match B with
      | .amap es cl => oget (updateA P T es cl k x) fun q => oget (S.setBlk r (.amap q.1 q.2)) fun S => some (.tuple [], S)
      | _ => none)
    | _ => none
  | .extract x i => oget (evo F E x) fun v =>
    match v with
    | .tuple vs => pv vs[i]?
    | _ => none
  | .call c => callAny C P F E S o c
  | _ => pv (generic P F E o)

/-- Is an operation done? -/
def wantedA (orc : SB → Option Bool) (ops : Array Oper) (F : Fr) (E : Env) (o : Oper) : Option Bool :=
  match o.guard with
  | none => some true
  | some (j, want) => oget (ops[j]?) fun g => oget g.dst fun d => oget (lk F d E) fun v =>
    match v with
    | .tuple [] => some false
    | v => oget (truth orc v) fun b => some (bsel want b (bsel b false true))

def evOps (C : Handler) (P : Program) (orc : SB → Option Bool) (ops : Array Oper) (F : Fr) : List Oper → Env → St → Option (Env × St)
  | [], E, S => some (E, S)
  | o :: l, E, S => oget (wantedA orc ops F E o) fun w =>
    bsel w
      (oget (evOp C P orc F E S o) fun q => match o.dst with
        | some d => bsel (Nat.blt d F.n) (evOps C P orc ops F l ((d, q.1) :: E) q.2) none
        | none => evOps C P orc ops F l E q.2)
      (match o.dst with
        | some d => bsel (Nat.blt d F.n) (evOps C P orc ops F l ((d, .tuple []) :: E) S) none
        | none => evOps C P orc ops F l E S)
/-- A region's operation in our order: which; 0 it reckons, 1 it reads, 2 it makes a block, 3 it may do more; how many orders more its read is looked at in. -/
structure Item where
  i : Nat
  cls : Nat
  lo : Nat

def sameL (f : AVal → AVal → Bool) : List AVal → List AVal → Bool
  | [], [] => true
  | a :: l, b :: r => bsel (f a b) (sameL f l r) false
  | _, _ => false
def isF (a b : FloatKind) : Bool :=
  match a, b with
  | .f32, .f32 | .f64, .f64 => true
  | _, _ => false
def opN (a : BinOp) : Nat :=
  match a with
  | .add => 0 | .sub => 1 | .mul => 2 | .quo => 3 | .rem => 4 | .and => 5 | .or => 6 | .xor => 7 | .shl => 8 | .shr => 9 | .andNot => 10 | .eql => 11 | .neq => 12 | .lss => 13 | .leq => 14 | .gtr => 15 | .geq => 16
def opOf (n : Nat) : BinOp :=
  match n with
  | 0 => .add | 1 => .sub | 2 => .mul | 3 => .quo | 4 => .rem | 5 => .and | 6 => .or | 7 => .xor | 8 => .shl | 9 => .shr | 10 => .andNot | 11 => .eql | 12 => .neq | 13 => .lss | 14 => .leq | 15 => .gtr | _ => .geq
def SE.same : SE → SE → Bool
  | .var i, .var j => Nat.beq i j
  | .lit n, .lit m => eqI n m
  | .bin o k y a b, .bin o' k' y' a' b' => bsel (Nat.beq (opN o) (opN o')) (bsel (isK k k') (bsel (isK y y') (bsel (SE.same a a') (SE.same b b') false) false) false) false
  | .conv k a, .conv k' a' => bsel (isK k k') (SE.same a a') false
  | _, _ => false
def SB.same : SB → SB → Bool
  | .cmp o a b, .cmp o' a' b' => bsel (Nat.beq (opN o) (opN o')) (bsel (SE.same a a') (SE.same b b') false) false
  | .not c, .not c' => SB.same c c'
  | _, _ => false
/-- The same, without rows in it. -/
def same1 (a b : AVal) : Bool :=
  match a, b with
  | .int k n, .int k' n' => bsel (isK k k') (eqI n n') false
  | .bool x, .bool y => bsel x y (bsel y false true)
  | .flt k n, .flt k' n' => bsel (isF k k') (Nat.beq n n') false
  | .ptr none, .ptr none => true
  | .ptr (some (b, i)), .ptr (some (b', i')) => bsel (Nat.beq b b') (Nat.beq i i') false
  | .slice none l c o, .slice none l' c' o' => bsel (Nat.beq l l') (bsel (Nat.beq c c') (Nat.beq o o') false) false
  | .slice (some (b, i)) l c o, .slice (some (b', i')) l' c' o' => bsel (Nat.beq b b') (bsel (Nat.beq i i') (bsel (Nat.beq l l') (bsel (Nat.beq c c') (Nat.beq o o') false) false) false) false
  | .eslice, .eslice => true
  | .map none, .map none => true
  | .map (some r), .map (some r') => Nat.beq r r'
  | .nilFn, .nilFn => true
  | .nilIface, .nilIface => true
  | .sym k e, .sym k' e' => bsel (isK k k') (SE.same e e') false
  | .symb c, .symb c' => SB.same c c'
  | _, _ => false
def sameA (a b : AVal) : Bool :=
  match a, b with
  | .agg l, .agg r => sameL same1 l r
  | .tuple l, .tuple r => sameL same1 l r
  | a, b => same1 a b

/-- Is the value this one in these memories too? -/
def looks (f : St → Option (AVal × St)) (v : AVal) : List St → Nat → Option Unit
  | _, 0 => some ()
  | [], _ + 1 => none
  | H :: l, n + 1 => oget (f H) fun q => bsel (sameA v q.1) (looks f v l n) none

def pushE (F : Fr) (d : Option Tmp) (v : AVal) (E : Env) : Option Env :=
  match d with
  | some d => bsel (Nat.blt d F.n) (some ((d, v) :: E)) none
  | none => some E
/-- In a memory that this block is not yet in, or is a row of. -/
def okIn (b : Nat) (H : St) : Option Unit := bsel (Nat.ble H.next b) (some ()) (H.alive b)
def looksM (b : Nat) : List St → Nat → Option Unit
  | [], _ => none
  | H :: _, 0 => okIn b H
  | H :: l, n + 1 => oget (okIn b H) fun _ => looksM b l n
/-- A mark behind a row of bytes: nothing that we look at is changed. -/
def markA (P : Program) (F : Fr) (E : Env) (S : St) (Hs : List St) (lo : Nat) (o : Oper) : Option (AVal × St) :=
  match o.op with
  | .convert s d x => oget (evo F E x) fun v =>
    match v with
    | .slice (some (b, i)) len cap opn => bsel (Nat.beq s d) (bsel (isU8 P s) (bsel (Nat.blt b S.next) (oget (looksM b Hs lo) fun _ => some (.slice (some (b, i)) len cap opn, S)) none) none) none
    | _ => none
  | _ => none
/-- The value of an operation in our order, the memory behind it. -/
def evItem (C : Handler) (P : Program) (orc : SB → Option Bool) (F : Fr) (it : Item) (o : Oper) (E : Env) (S : St) (Hs : List St) : Option (AVal × St) :=
  bsel (Nat.beq it.cls 1)
    (match Hs with
      | H :: l => oget (evOp C P orc F E H o) fun q => oget (looks (fun H => evOp C P orc F E H o) q.1 l it.lo) fun _ => some (q.1, S)
      | [] => none)
    (bsel (Nat.beq it.cls 4) (markA P F E S Hs it.lo o) (oget (evOp C P orc F E S o) fun q => bsel (Nat.beq it.cls 0) (some (q.1, S)) (some q)))
def evD1 (C : Handler) (P : Program) (orc : SB → Option Bool) (ops : Array Oper) (F : Fr) (it : Item) (q : Env × St × List St) : Option (Env × St × List St) :=
  oget ops[it.i]? fun o => oget (wantedA orc ops F q.1 o) fun w =>
    oget (bsel w (evItem C P orc F it o q.1 q.2.1 q.2.2) (some (.tuple [], q.2.1))) fun r =>
      oget (pushE F o.dst r.1 q.1) fun E => some (E, r.2, bsel (Nat.beq it.cls 3) (r.2 :: q.2.2) q.2.2)
def evDraw (C : Handler) (P : Program) (orc : SB → Option Bool) (ops : Array Oper) (F : Fr) : List Item → Env × St × List St → Option (Env × St × List St)
  | [], q => some q
  | it :: l, q => oget (evD1 C P orc ops F it q) fun q => evDraw C P orc ops F l q

def putAll (keep : Nat) (F : Fr) : Env → Option Fr
  | [] => some F
  | (d, v) :: E => oget (putAll keep F E) fun F => bsel (Nat.beq (Nat.land (Nat.shiftRight keep d) 1) 1) (F.put d v) (some F)

def findPlan (id : Nat) : List (Nat × List Item) → Option (List Item)
  | [] => none
  | (j, l) :: r => bsel (Nat.beq j id) (some l) (findPlan id r)

inductive AExit where
  | normal
  | exit (id : Nat)
  | ret

/-- What is known of a function's code: the slots that are kept between regions, our orders of the regions whose order is open. -/
structure Info where
  keep : Nat
  plans : List (Nat × List Item)

def evC (C : Handler) (P : Program) (orc : SB → Option Bool) (I : Info) : Nat → Code → Fr → St → Option (AExit × Fr × St)
  | 0, _, _, _ => none
  | n + 1, c, F, S =>
    match c with
    | .skip => some (.normal, F, S)
    | .region id ops draw => bsel draw
        (oget (findPlan id I.plans) fun l => oget (evDraw C P orc ops F l ([], S, [S])) fun q => oget (putAll I.keep F q.1) fun F => some (.normal, F, q.2.1))
        (oget (evOps C P orc ops F ops.toList [] S) fun q => oget (putAll I.keep F q.1) fun F => some (.normal, F, q.2))
    | .seq a b => oget (evC C P orc I n a F S) fun q =>
      match q with
      | (.normal, F, S) => evC C P orc I n b F S
      | q => some q
    | .cond x a b => oget (evo F [] x) fun v => oget (truth orc v) fun t => bsel t (evC C P orc I n a F S) (evC C P orc I n b F S)
    | .block id b => oget (evC C P orc I n b F S) fun q =>
      match q with
      | (.exit id', F, S) => bsel (Nat.beq id' id) (some (.normal, F, S)) (some (.exit id', F, S))
      | q => some q
    | .loop b => oget (evC C P orc I n b F S) fun q =>
      match q with
      | (.normal, F, S) => evC C P orc I n (.loop b) F S
      | q => some q
    | .exit id => some (.exit id, F, S)
    | .ret => some (.ret, F, S)
    | _ => none

def resOne (P : Program) (F : Fr) (S : St) : ResultVar → Option AVal
  | .tmp t => F.get t
  | .cell a T => oget (F.get a) fun v => oget (aggSize P T) fun z =>
    match v with
    | .ptr (some (b, i)) => (match z with
      | none => S.load b i
      | some n => oget (S.loads b i n) fun l => some (.agg l))
    | _ => none
def resAll (P : Program) (F : Fr) (S : St) : List ResultVar → Option (List AVal)
  | [] => some []
  | r :: l => oget (resOne P F S r) fun v => oget (resAll P F S l) fun l => some (v :: l)

def initFr (keep : Nat) (n : Nat) : Nat → List AVal → Tr AVal → Tr AVal
  | _, [], t => t
  | i, v :: l, t => initFr keep n (i + 1) l (bsel (Nat.beq (Nat.land (Nat.shiftRight keep i) 1) 1) (t.set i v) t)

/-- A function that is known: its code, which slots are kept between regions. -/
structure AFun where
  info : Info
  fn : Func

/-- A function's value of its results. -/
def oneOr : List AVal → AVal
  | [v] => v
  | vs => .tuple vs
/-- A call: of a function of the table by its code, of another one as B says. -/
def callN (P : Program) (orc : SB → Option Bool) (B : Handler) (T : FuncId → Option AFun) (fuel : Nat) : Nat → Handler
  | 0 => B
  | d + 1 => fun f args S =>
    match T f with
    | none => B f args S
    | some A =>
      bsel (Nat.ble args.length A.fn.ntmps)
        (oget A.fn.body fun body => oget (evC (callN P orc B T fuel d) P orc A.info fuel body ⟨A.fn.ntmps, initFr A.info.keep A.fn.ntmps 0 args .leaf⟩ S) fun q =>
          match q with
          | (.exit _, _, _) => none
          | (_, F, S) => oget (resAll P F S A.fn.results.toList) fun vs => some (oneOr vs, S)) none
end Go.Abs
