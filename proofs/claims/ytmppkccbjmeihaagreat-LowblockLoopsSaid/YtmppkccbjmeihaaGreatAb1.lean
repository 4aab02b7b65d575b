/- The abstract machine: values, memory, operations. -/
import GoSem.Step
namespace Go.Abs
set_option autoImplicit true
set_option relaxedAutoImplicit true
set_option linter.unusedVariables false
set_option linter.unusedSimpArgs false
set_option linter.unusedSectionVars false

/-! #### control in a form that Lean's kernel reduces quickly -/
@[inline] def oget {α β : Type} (o : Option α) (k : α → Option β) : Option β := Option.casesOn o none k
@[inline] def bsel {β : Type} (b : Bool) (x y : β) : β := Bool.casesOn b y x
@[inline] def forceN {β : Type} (n : Nat) (k : Nat → β) : β := Nat.casesOn n (k 0) fun m => k (Nat.succ m)
@[inline] def forceI {β : Type} (n : Int) (k : Int → β) : β := Int.casesOn n (fun a => forceN a fun a => k (Int.ofNat a)) (fun a => forceN a fun a => k (Int.negSucc a))

def leI (a b : Int) : Bool := Int.casesOn (Int.sub b a) (fun _ => true) (fun _ => false)
def eqI (a b : Int) : Bool := Int.casesOn a (fun m => Int.casesOn b (fun n => Nat.beq m n) fun _ => false) fun m => Int.casesOn b (fun _ => false) fun n => Nat.beq m n

/-! #### tries -/
inductive Tr (α : Type) where
  | leaf
  | node (l : Tr α) (v : Option α) (r : Tr α)
namespace Tr
variable {α : Type}
def getF (f : Nat) : Tr α → Nat → Option α :=
  Nat.rec (motive := fun _ => Tr α → Nat → Option α) (fun _ _ => none) (fun _ ih t n =>
    Tr.casesOn t none fun l v r => bsel (Nat.beq n 0) v (bsel (Nat.beq (Nat.mod n 2) 1) (ih l (Nat.div n 2)) (ih r (Nat.pred (Nat.div n 2))))) f
def get (t : Tr α) (n : Nat) : Option α := getF (Nat.succ n) t n
def setF (f : Nat) : Tr α → Nat → α → Tr α :=
  Nat.rec (motive := fun _ => Tr α → Nat → α → Tr α) (fun t _ _ => t) (fun _ ih t n x =>
    Tr.casesOn t
      (bsel (Nat.beq n 0) (.node .leaf (some x) .leaf)
        (bsel (Nat.beq (Nat.mod n 2) 1) (Tr.casesOn (ih .leaf (Nat.div n 2) x) .leaf fun a b c => .node (.node a b c) none .leaf)
          (Tr.casesOn (ih .leaf (Nat.pred (Nat.div n 2)) x) .leaf fun a b c => .node .leaf none (.node a b c))))
      fun l v r => bsel (Nat.beq n 0) (.node l (some x) r)
        (bsel (Nat.beq (Nat.mod n 2) 1) (Tr.casesOn (ih l (Nat.div n 2) x) (.node .leaf v r) fun a b c => .node (.node a b c) v r)
          (Tr.casesOn (ih r (Nat.pred (Nat.div n 2)) x) (.node l v .leaf) fun a b c => .node l v (.node a b c)))) f
def set (t : Tr α) (n : Nat) (x : α) : Tr α := setF (Nat.succ n) t n x
end Tr

/-! #### numbers that are not known -/
inductive SE where
  | var (i : Nat)
  | lit (n : Int)
  | bin (op : BinOp) (k yk : IntKind) (a b : SE)
  | conv (k : IntKind) (a : SE)
inductive SB where
  | cmp (op : BinOp) (a b : SE)
  | not (c : SB)

inductive AVal where
  | int (k : IntKind) (n : Int)
  | sym (k : IntKind) (e : SE)
  | bool (b : Bool)
  | symb (c : SB)
  | flt (k : FloatKind) (bits : Nat)
  | str (s : ByteArray)
  | ptr (a : Option (Nat × Nat))
  | slice (a : Option (Nat × Nat)) (len cap : Nat) (opn : Nat)
  | eslice
  | map (r : Option Nat)
  | fn (f : FuncId) (caps : List AVal)
  | nilFn
  | iface (t : TypeId) (v : AVal)
  | nilIface
  | agg (cs : List AVal)
  | tuple (vs : List AVal)
  deriving Inhabited

/-- The cells of a value. -/
def AVal.cells : AVal → List AVal
  | .agg cs => cs
  | v => [v]

/-- A block: n cells (d: what those that are not told hold), or a map (as the machine has it: plain data). -/
inductive ABlk where
  | cells (n : Nat) (d : AVal) (t : Tr AVal)
  | amap (es : Array MapEntry) (clock : Nat)
  | dead

structure St where
  heap : Tr ABlk
  next : Nat

structure Fr where
  n : Nat
  t : Tr AVal

def Fr.put (F : Fr) (d : Nat) (v : AVal) : Option Fr :=
  bsel (Nat.blt d F.n) (Tr.casesOn (F.t.set d v) none fun a b c => some ⟨F.n, .node a b c⟩) none
def Fr.get (F : Fr) (d : Nat) : Option AVal := F.t.get d

/-- A machine's value without memory in it as one of ours. -/
def ofScalar : Value → Option AVal
  | .bool b => some (.bool b)
  | .int k n => forceI n fun n => some (.int k n)
  | .float k b => forceN b fun b => some (.flt k b)
  | .string s => some (.str s)
  | .pointer none => some (.ptr none)
  | .slice none 0 0 => some (.slice none 0 0 0)
  | .map none => some (.map none)
  | .nilFunc => some .nilFn
  | .nilIface => some .nilIface
  | _ => none
def ofScalars : List Value → Option (List AVal)
  | [] => some []
  | v :: l => oget (ofScalar v) fun v => oget (ofScalars l) fun l => some (v :: l)
def ofV (v : Value) : Option AVal :=
  match v with
  | .agg cs => oget (ofScalars cs.toList) fun l => some (.agg l)
  | .tuple cs => oget (ofScalars cs.toList) fun l => some (.tuple l)
  | v => ofScalar v
def toScalar : AVal → Option Value
  | .bool b => some (.bool b)
  | .int k n => some (.int k n)
  | .flt k b => some (.float k b)
  | .str s => some (.string s)
  | .ptr none => some (.pointer none)
  | .slice none 0 0 0 => some (.slice none 0 0)
  | .map none => some (.map none)
  | .fn f [] => some (.func (.func f) #[] #[])
  | .nilFn => some .nilFunc
  | .nilIface => some .nilIface
  | _ => none
def toScalars : List AVal → Option (List Value)
  | [] => some []
  | v :: l => oget (toScalar v) fun v => oget (toScalars l) fun l => some (v :: l)
def toV (v : AVal) : Option Value :=
  match v with
  | .agg cs => oget (toScalars cs) fun l => some (.agg l.toArray)
  | .tuple cs => oget (toScalars cs) fun l => some (.tuple l.toArray)
  | v => toScalar v

/-! #### memory -/
def ABlk.cell (B : ABlk) (i : Nat) : Option AVal :=
  ABlk.casesOn B (fun n d t => bsel (Nat.blt i n) (some (Option.casesOn (t.get i) d id)) none) (fun _ _ => none) none
def ABlk.setCell (B : ABlk) (i : Nat) (v : AVal) : Option ABlk :=
  ABlk.casesOn B (fun n d t => bsel (Nat.blt i n) (Tr.casesOn (t.set i v) none fun a b c => some (.cells n d (.node a b c))) none) (fun _ _ => none) none
def St.blk (S : St) (b : Nat) : Option ABlk := S.heap.get b
def St.setBlk (S : St) (b : Nat) (B : ABlk) : Option St := Tr.casesOn (S.heap.set b B) none fun x y z => some ⟨.node x y z, S.next⟩
def cellsFrom (B : ABlk) (i : Nat) : Nat → Option (List AVal)
  | 0 => some []
  | n + 1 => oget (B.cell i) fun v => oget (cellsFrom B (i + 1) n) fun l => some (v :: l)
def St.load (S : St) (b i : Nat) : Option AVal := oget (S.blk b) fun B => B.cell i
def St.loads (S : St) (b i n : Nat) : Option (List AVal) := oget (S.blk b) fun B => cellsFrom B i n
def setCells (B : ABlk) (i : Nat) : List AVal → Option ABlk
  | [] => some B
  | v :: l => oget (B.setCell i v) fun B => setCells B (i + 1) l
def St.stores (S : St) (b i : Nat) (l : List AVal) : Option St := oget (S.blk b) fun B => oget (setCells B i l) fun B => S.setBlk b B
def trOf (i : Nat) (t : Tr AVal) : List AVal → Tr AVal
  | [] => t
  | v :: l => trOf (i + 1) (t.set i v) l
/-- A new block of these cells. -/
def mkCells (l : List AVal) : ABlk := forceN l.length fun n => .cells n (.bool false) (trOf 0 .leaf l)
/-- n times these cells. -/
def zeroCells (n : Nat) (z : List AVal) : ABlk :=
  match z with
  | [v] => .cells n v .leaf
  | z => mkCells (List.replicate n z).flatten
def St.new (S : St) (B : ABlk) : Option (Nat × St) :=
  Tr.casesOn (S.heap.set S.next B) none fun x y z => forceN (Nat.succ S.next) fun n => some (S.next, ⟨.node x y z, n⟩)

/-! #### numbers -/
def wrapI (k : IntKind) (n : Int) : Int :=
  IntKind.casesOn k
    (let m := Int.emod n 256; bsel (leI 128 m) (Int.sub m 256) m)
    (let m := Int.emod n 65536; bsel (leI 32768 m) (Int.sub m 65536) m)
    (let m := Int.emod n 4294967296; bsel (leI 2147483648 m) (Int.sub m 4294967296) m)
    (bsel (leI n 9223372036854775807) (bsel (leI (-9223372036854775808) n) n (let m := Int.emod n 18446744073709551616; bsel (leI 9223372036854775808 m) (Int.sub m 18446744073709551616) m))
      (let m := Int.emod n 18446744073709551616; bsel (leI 9223372036854775808 m) (Int.sub m 18446744073709551616) m))
    (Int.emod n 256) (Int.emod n 65536) (Int.emod n 4294967296) (Int.emod n 18446744073709551616)

def intV (k : IntKind) (n : Int) : Option AVal := forceI (wrapI k n) fun n => some (.int k n)
/-- The commonest operations on two numbers of one kind; none: by the machine's own words. -/
def ibin (op : BinOp) (k : IntKind) (x y : Int) : Option AVal :=
  match op with
  | .add => intV k (Int.add x y)
  | .sub => intV k (Int.sub x y)
  | .mul => intV k (Int.mul x y)
  | .eql => some (.bool (eqI x y))
  | .neq => some (.bool (bsel (eqI x y) false true))
  | .lss => some (.bool (bsel (leI y x) false true))
  | .leq => some (.bool (leI x y))
  | .gtr => some (.bool (bsel (leI x y) false true))
  | .geq => some (.bool (leI y x))
  | _ => none
def isCmp : BinOp → Bool
  | .eql | .neq | .lss | .leq | .gtr | .geq => true
  | _ => false
def isArith : BinOp → Bool
  | .add | .sub | .mul | .and | .or | .xor | .andNot => true
  | _ => false

def pureRun {α : Type} (p : Program) : Sem α → Option α
  | .pure a => some a
  | .program k => pureRun p (k p)
  | .mark _ k => pureRun p k
  | .choose q k => if q.forced then pureRun p (k 0) else none
  | _ => none

/-- Where field f of a struct of type s begins; none where it has no cells. -/
def fieldOff (P : Program) (s : TypeId) (f : Nat) : Option Nat :=
  match P.underlying s with
  | some (.struct fs) => match fs[f]? with
    | some fd => match P.info? fd.type with
      | some i => if i.size = 0 then none else some fd.offset
      | none => none
    | none => none
  | _ => none
/-- Cells of a slice type's elements. -/
def eltSize (P : Program) (t : TypeId) : Option Nat :=
  match P.underlying t with
  | some (.slice e) => (P.info? e).map (·.size)
  | _ => none
def eltZero (P : Program) (t : TypeId) : Option (List AVal) :=
  match P.underlying t with
  | some (.slice e) => match P.info? e with
    | some i => match i.zero with
      | some z => ofScalars z.cells.toList
      | none => none
    | none => none
  | _ => none
def eltBytes (P : Program) (t : TypeId) : Option Nat :=
  match P.underlying t with
  | some (.slice e) => (P.info? e).map (·.bytes)
  | _ => none
def typeZero (P : Program) (t : TypeId) : Option (List AVal) :=
  match P.info? t with
  | some i => match i.zero with
    | some z => ofScalars z.cells.toList
    | none => none
  | none => none
/-- none: a scalar; some n: a struct or an array of n cells. -/
def aggSize (P : Program) (t : TypeId) : Option (Option Nat) :=
  match P.underlying t with
  | some (.struct _) | some (.array _ _) => (P.info? t).map fun i => some i.size
  | some _ => some none
  | none => none
def cellsOf? (P : Program) (t : TypeId) : Option Nat := (P.info? t).map (·.size)
/-- Of a struct type each field's place and size. -/
def places (P : Program) (t : TypeId) : Option (List (Nat × Nat)) :=
  match P.underlying t with
  | some (.struct fs) => fs.toList.mapM fun f => (P.info? f.type).map fun i => (f.offset, i.size)
  | _ => none
/-- A field of a struct value: where, and of how many cells (none: a scalar). -/
def fieldAt? (P : Program) (s : TypeId) (f : Nat) : Option (Nat × Option Nat) :=
  match P.underlying s with
  | some (.struct fs) => match fs[f]? with
    | some fd => (aggSize P fd.type).map fun z => (fd.offset, z)
    | none => none
  | _ => none

end Go.Abs
