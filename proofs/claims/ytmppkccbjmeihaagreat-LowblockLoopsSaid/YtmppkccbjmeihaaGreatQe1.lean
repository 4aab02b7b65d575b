/- The abstract machine in a form that Lean's kernel reduces faster: code that is laid out once; words of control that are recursors. -/
import Derived.Test.YtmppkccbjmeihaaGreatAb25
namespace Go.Abs
set_option autoImplicit true
set_option relaxedAutoImplicit true
set_option linter.unusedVariables false
set_option linter.unusedSimpArgs false
set_option linter.unusedSectionVars false

/-! #### tries -/
noncomputable def getA (t : Tr AVal) (n : Nat) : Option AVal :=
  @Tr.rec AVal (fun _ => Nat → Option AVal) (fun _ => none) (fun _ v _ ihl ihr n => @Bool.rec (fun _ => Option AVal) (@Bool.rec (fun _ => Option AVal) (ihr (Nat.sub (Nat.div n 2) 1)) (ihl (Nat.div n 2)) (Nat.beq (Nat.mod n 2) 1)) v (Nat.beq n 0)) t n

noncomputable def getB (t : Tr ABlk) (n : Nat) : Option ABlk :=
  @Tr.rec ABlk (fun _ => Nat → Option ABlk) (fun _ => none) (fun _ v _ ihl ihr n => @Bool.rec (fun _ => Option ABlk) (@Bool.rec (fun _ => Option ABlk) (ihr (Nat.sub (Nat.div n 2) 1)) (ihl (Nat.div n 2)) (Nat.beq (Nat.mod n 2) 1)) v (Nat.beq n 0)) t n

noncomputable def setAL (t : Tr AVal) (v : Option AVal) (r : Tr AVal) : Tr AVal := @Tr.rec AVal (fun _ => Option AVal → Tr AVal → Tr AVal) (fun v r => .node .leaf v r) (fun a b c _ _ v r => .node (.node a b c) v r) t v r
noncomputable def setAR (l : Tr AVal) (v : Option AVal) (t : Tr AVal) : Tr AVal := @Tr.rec AVal (fun _ => Tr AVal → Option AVal → Tr AVal) (fun l v => .node l v .leaf) (fun a b c _ _ l v => .node l v (.node a b c)) t l v
noncomputable def setA (t : Tr AVal) (n : Nat) (x : AVal) : Tr AVal :=
  @Tr.rec AVal (fun _ => Nat → AVal → Tr AVal) (fun n x => Tr.set .leaf n x) (fun l v r ihl ihr n x => @Bool.rec (fun _ => Tr AVal) (@Bool.rec (fun _ => Tr AVal) (setAR l v (ihr (Nat.sub (Nat.div n 2) 1) x)) (setAL (ihl (Nat.div n 2) x) v r) (Nat.beq (Nat.mod n 2) 1)) (.node l (some x) r) (Nat.beq n 0)) t n x

noncomputable def setBL (t : Tr ABlk) (v : Option ABlk) (r : Tr ABlk) : Tr ABlk := @Tr.rec ABlk (fun _ => Option ABlk → Tr ABlk → Tr ABlk) (fun v r => .node .leaf v r) (fun a b c _ _ v r => .node (.node a b c) v r) t v r
noncomputable def setBR (l : Tr ABlk) (v : Option ABlk) (t : Tr ABlk) : Tr ABlk := @Tr.rec ABlk (fun _ => Tr ABlk → Option ABlk → Tr ABlk) (fun l v => .node l v .leaf) (fun a b c _ _ l v => .node l v (.node a b c)) t l v
noncomputable def setB (t : Tr ABlk) (n : Nat) (x : ABlk) : Tr ABlk :=
  @Tr.rec ABlk (fun _ => Nat → ABlk → Tr ABlk) (fun n x => Tr.set .leaf n x) (fun l v r ihl ihr n x => @Bool.rec (fun _ => Tr ABlk) (@Bool.rec (fun _ => Tr ABlk) (setBR l v (ihr (Nat.sub (Nat.div n 2) 1) x)) (setBL (ihl (Nat.div n 2) x) v r) (Nat.beq (Nat.mod n 2) 1)) (.node l (some x) r) (Nat.beq n 0)) t n x

/-! #### results -/
inductive RV where
  | no
  | ok (v : AVal) (S : St)
inductive QE where
  | nil
  | cons (d : Nat) (v : AVal) (E : QE)
inductive RE where
  | no
  | ok (E : QE) (S : St)
inductive RC where
  | no
  | nor (t : Tr AVal) (S : St)
  | ex (id : Nat) (t : Tr AVal) (S : St)
  | ret (t : Tr AVal) (S : St)
def RV.opt : RV → Option (AVal × St)
  | .no => none
  | .ok v S => some (v, S)
def RE.opt (f : QE → Env) : RE → Option (Env × St)
  | .no => none
  | .ok E S => some (f E, S)
def QE.list : QE → Env
  | .nil => []
  | .cons d v E => (d, v) :: E.list
def RC.opt (n : Nat) : RC → Option (AExit × Fr × St)
  | .no => none
  | .nor t S => some (.normal, ⟨n, t⟩, S)
  | .ex id t S => some (.exit id, ⟨n, t⟩, S)
  | .ret t S => some (.ret, ⟨n, t⟩, S)
noncomputable def rvOf (o : Option (AVal × St)) : RV := @Option.rec (AVal × St) (fun _ => RV) .no (fun q => @Prod.rec AVal St (fun _ => RV) (fun v S => .ok v S) q) o
noncomputable def rvV (o : Option AVal) (S : St) : RV := @Option.rec AVal (fun _ => St → RV) (fun _ => .no) (fun v S => .ok v S) o S

/-! #### operands -/
inductive QO where
  | t (n : Nat)
  | v (x : AVal)
  | bad
def qo (x : Operand) : QO :=
  match x with
  | .tmp t => .t t
  | .const v => match ofV v with | some v => .v v | none => .bad
  | .global _ => .bad
  | .func f => .v (.fn f [])
noncomputable def lkQ (t : Tr AVal) (d : Nat) (E : QE) : Option AVal := @QE.rec (fun _ => Tr AVal → Nat → Option AVal) (fun t d => getA t d) (fun d' v _ ih t d => @Bool.rec (fun _ => Option AVal) (ih t d) (some v) (Nat.beq d' d)) E t d
noncomputable def evQ (x : QO) (t : Tr AVal) (E : QE) : Option AVal := @QO.rec (fun _ => Tr AVal → QE → Option AVal) (fun d t E => lkQ t d E) (fun v _ _ => some v) (fun _ _ => none) x t E
noncomputable def evsQ (l : List QO) (t : Tr AVal) (E : QE) : Option (List AVal) :=
  @List.rec QO (fun _ => Tr AVal → QE → Option (List AVal)) (fun _ _ => some []) (fun x _ ih t E => @Option.rec AVal (fun _ => Option (List AVal)) none (fun v => @Option.rec (List AVal) (fun _ => Option (List AVal)) none (fun l => some (v :: l)) (ih t E)) (evQ x t E)) l t E

/-! #### memory -/
noncomputable def cellQ (B : ABlk) (i : Nat) : Option AVal := @ABlk.rec (fun _ => Nat → Option AVal) (fun n d t i => @Bool.rec (fun _ => Option AVal) none (@Option.rec AVal (fun _ => Option AVal) (some d) (fun v => some v) (getA t i)) (Nat.ble (Nat.succ i) n)) (fun _ _ _ => none) (fun _ => none) B i
noncomputable def loadQ (S : St) (b i : Nat) : Option AVal := @St.rec (fun _ => Nat → Nat → Option AVal) (fun h _ b i => @Option.rec ABlk (fun _ => Nat → Option AVal) (fun _ => none) (fun B i => cellQ B i) (getB h b) i) S b i
noncomputable def setCellQ (B : ABlk) (i : Nat) (v : AVal) : Option ABlk := @ABlk.rec (fun _ => Nat → AVal → Option ABlk) (fun n d t i v => @Bool.rec (fun _ => Option ABlk) none (@Tr.rec AVal (fun _ => Nat → AVal → Option ABlk) (fun _ _ => none) (fun a b c _ _ n d => some (.cells n d (.node a b c))) (setA t i v) n d) (Nat.ble (Nat.succ i) n)) (fun _ _ _ _ => none) (fun _ _ => none) B i v
noncomputable def setBlkQ (S : St) (b : Nat) (B : ABlk) : Option St := @St.rec (fun _ => Nat → ABlk → Option St) (fun h n b B => @Tr.rec ABlk (fun _ => Nat → Option St) (fun _ => none) (fun x y z _ _ n => some ⟨.node x y z, n⟩) (setB h b B) n) S b B
noncomputable def store1Q (S : St) (b i : Nat) (v : AVal) : RV := @St.rec (fun _ => Nat → Nat → AVal → RV) (fun h n b i v => @Option.rec ABlk (fun _ => Nat → Tr ABlk → Nat → Nat → AVal → RV) (fun _ _ _ _ _ => .no)
    (fun B n h b i v => @Option.rec ABlk (fun _ => Nat → Tr ABlk → Nat → RV) (fun _ _ _ => .no) (fun B n h b => @Tr.rec ABlk (fun _ => Nat → RV) (fun _ => .no) (fun x y z _ _ n => .ok (.tuple []) ⟨.node x y z, n⟩) (setB h b B) n) (setCellQ B i v) n h b) (getB h b) n h b i v) S b i v

noncomputable def isCellQ (v : AVal) : Bool := @AVal.rec (fun _ => Bool) (fun _ => PUnit) (fun _ _ => true) (fun _ _ => true) (fun _ => true) (fun _ => true) (fun _ _ => true) (fun _ => true) (fun _ => true) (fun _ _ _ _ => true) (true) (fun _ => true) (fun _ _ _ => true) (true) (fun _ _ _ => true) (true) (fun _ _ => false) (fun _ _ => false) PUnit.unit (fun _ _ _ _ => PUnit.unit) v 
noncomputable def ldP (a : AVal) (S : St) : RV := @AVal.rec (fun _ => St → RV) (fun _ => PUnit) (fun _ _ _ => .no) (fun _ _ _ => .no) (fun _ _ => .no) (fun _ _ => .no) (fun _ _ _ => .no) (fun _ _ => .no) (fun a S => @Option.rec (Nat × Nat) (fun _ => St → RV) (fun _ => .no) (fun p S => @Prod.rec Nat Nat (fun _ => St → RV) (fun b i S => rvV (loadQ S b i) S) p S) a S) (fun _ _ _ _ _ => .no) (fun _ => .no) (fun _ _ => .no) (fun _ _ _ _ => .no) (fun _ => .no) (fun _ _ _ _ => .no) (fun _ => .no) (fun _ _ _ => .no) (fun _ _ _ => .no) PUnit.unit (fun _ _ _ _ => PUnit.unit) a S
noncomputable def st1P (a : AVal) (v : AVal) (S : St) : RV := @AVal.rec (fun _ => AVal → St → RV) (fun _ => PUnit) (fun _ _ _ _ => .no) (fun _ _ _ _ => .no) (fun _ _ _ => .no) (fun _ _ _ => .no) (fun _ _ _ _ => .no) (fun _ _ _ => .no) (fun a v S => @Option.rec (Nat × Nat) (fun _ => AVal → St → RV) (fun _ _ => .no) (fun p v S => @Prod.rec Nat Nat (fun _ => AVal → St → RV) (fun b i v S => store1Q S b i v) p v S) a v S) (fun _ _ _ _ _ _ => .no) (fun _ _ => .no) (fun _ _ _ => .no) (fun _ _ _ _ _ => .no) (fun _ _ => .no) (fun _ _ _ _ _ => .no) (fun _ _ => .no) (fun _ _ _ _ => .no) (fun _ _ _ _ => .no) PUnit.unit (fun _ _ _ _ => PUnit.unit) a v S
noncomputable def faP (a : AVal) (k : Nat) (S : St) : RV := @AVal.rec (fun _ => Nat → St → RV) (fun _ => PUnit) (fun _ _ _ _ => .no) (fun _ _ _ _ => .no) (fun _ _ _ => .no) (fun _ _ _ => .no) (fun _ _ _ _ => .no) (fun _ _ _ => .no) (fun a k S => @Option.rec (Nat × Nat) (fun _ => Nat → St → RV) (fun _ _ => .no) (fun p k S => @Prod.rec Nat Nat (fun _ => Nat → St → RV) (fun b i k S => forceN (Nat.add i k) fun i => .ok (.ptr (some (b, i))) S) p k S) a k S) (fun _ _ _ _ _ _ => .no) (fun _ _ => .no) (fun _ _ _ => .no) (fun _ _ _ _ _ => .no) (fun _ _ => .no) (fun _ _ _ _ _ => .no) (fun _ _ => .no) (fun _ _ _ _ => .no) (fun _ _ _ _ => .no) PUnit.unit (fun _ _ _ _ => PUnit.unit) a k S
noncomputable def iaI (i : AVal) (b o len es : Nat) (S : St) : RV := @AVal.rec (fun _ => Nat → Nat → Nat → Nat → St → RV) (fun _ => PUnit) (fun _ n b o len es S => @Int.rec (fun _ => Nat → Nat → Nat → Nat → St → RV) (fun i b o len es S => @Bool.rec (fun _ => RV) .no (forceN (Nat.add o (Nat.mul i es)) fun j => .ok (.ptr (some (b, j))) S) (Nat.ble (Nat.succ i) len)) (fun _ _ _ _ _ _ => .no) n b o len es S) (fun _ _ _ _ _ _ _ => .no) (fun _ _ _ _ _ _ => .no) (fun _ _ _ _ _ _ => .no) (fun _ _ _ _ _ _ _ => .no) (fun _ _ _ _ _ _ => .no) (fun _ _ _ _ _ _ => .no) (fun _ _ _ _ _ _ _ _ _ => .no) (fun _ _ _ _ _ => .no) (fun _ _ _ _ _ _ => .no) (fun _ _ _ _ _ _ _ _ => .no) (fun _ _ _ _ _ => .no) (fun _ _ _ _ _ _ _ _ => .no) (fun _ _ _ _ _ => .no) (fun _ _ _ _ _ _ _ => .no) (fun _ _ _ _ _ _ _ => .no) PUnit.unit (fun _ _ _ _ => PUnit.unit) i b o len es S
noncomputable def iaP (a : AVal) (i : AVal) (es : Nat) (S : St) : RV := @AVal.rec (fun _ => AVal → Nat → St → RV) (fun _ => PUnit) (fun _ _ _ _ _ => .no) (fun _ _ _ _ _ => .no) (fun _ _ _ _ => .no) (fun _ _ _ _ => .no) (fun _ _ _ _ _ => .no) (fun _ _ _ _ => .no) (fun _ _ _ _ => .no) (fun a len _ _ i es S => @Option.rec (Nat × Nat) (fun _ => Nat → AVal → Nat → St → RV) (fun _ _ _ _ => .no) (fun p len i es S => @Prod.rec Nat Nat (fun _ => Nat → AVal → Nat → St → RV) (fun b o len i es S => iaI i b o len es S) p len i es S) a len i es S) (fun _ _ _ => .no) (fun _ _ _ _ => .no) (fun _ _ _ _ _ _ => .no) (fun _ _ _ => .no) (fun _ _ _ _ _ _ => .no) (fun _ _ _ => .no) (fun _ _ _ _ _ => .no) (fun _ _ _ _ _ => .no) PUnit.unit (fun _ _ _ _ => PUnit.unit) a i es S
noncomputable def extP (a : AVal) (i : Nat) (S : St) : RV := @AVal.rec (fun _ => Nat → St → RV) (fun _ => PUnit) (fun _ _ _ _ => .no) (fun _ _ _ _ => .no) (fun _ _ _ => .no) (fun _ _ _ => .no) (fun _ _ _ _ => .no) (fun _ _ _ => .no) (fun _ _ _ => .no) (fun _ _ _ _ _ _ => .no) (fun _ _ => .no) (fun _ _ _ => .no) (fun _ _ _ _ _ => .no) (fun _ _ => .no) (fun _ _ _ _ _ => .no) (fun _ _ => .no) (fun _ _ _ _ => .no) (fun vs _ i S => rvV vs[i]? S) PUnit.unit (fun _ _ _ _ => PUnit.unit) a i S
noncomputable def fld0P (a : AVal) (i : Nat) (S : St) : RV := @AVal.rec (fun _ => Nat → St → RV) (fun _ => PUnit) (fun _ _ _ _ => .no) (fun _ _ _ _ => .no) (fun _ _ _ => .no) (fun _ _ _ => .no) (fun _ _ _ _ => .no) (fun _ _ _ => .no) (fun _ _ _ => .no) (fun _ _ _ _ _ _ => .no) (fun _ _ => .no) (fun _ _ _ => .no) (fun _ _ _ _ _ => .no) (fun _ _ => .no) (fun _ _ _ _ _ => .no) (fun _ _ => .no) (fun cs _ i S => rvV cs[i]? S) (fun _ _ _ _ => .no) PUnit.unit (fun _ _ _ _ => PUnit.unit) a i S
noncomputable def fldnP (a : AVal) (i n : Nat) (S : St) : RV := @AVal.rec (fun _ => Nat → Nat → St → RV) (fun _ => PUnit) (fun _ _ _ _ _ => .no) (fun _ _ _ _ _ => .no) (fun _ _ _ _ => .no) (fun _ _ _ _ => .no) (fun _ _ _ _ _ => .no) (fun _ _ _ _ => .no) (fun _ _ _ _ => .no) (fun _ _ _ _ _ _ _ => .no) (fun _ _ _ => .no) (fun _ _ _ _ => .no) (fun _ _ _ _ _ _ => .no) (fun _ _ _ => .no) (fun _ _ _ _ _ _ => .no) (fun _ _ _ => .no) (fun cs _ i n S => @Bool.rec (fun _ => RV) .no (.ok (.agg ((cs.drop i).take n)) S) (Nat.ble (Nat.add i n) cs.length)) (fun _ _ _ _ _ => .no) PUnit.unit (fun _ _ _ _ => PUnit.unit) a i n S
noncomputable def lenP (a : AVal) (sl st : Bool) (S : St) : RV := @AVal.rec (fun _ => Bool → Bool → St → RV) (fun _ => PUnit) (fun _ _ _ _ _ => .no) (fun _ _ _ _ _ => .no) (fun _ _ _ _ => .no) (fun _ _ _ _ => .no) (fun _ _ _ _ _ => .no) (fun s _ st S => @Bool.rec (fun _ => RV) .no (.ok (.int .i64 (.ofNat s.size)) S) st) (fun _ _ _ _ => .no) (fun _ n _ _ sl _ S => @Bool.rec (fun _ => RV) .no (.ok (.int .i64 (.ofNat n)) S) sl) (fun sl _ S => @Bool.rec (fun _ => RV) .no (.ok (.int .i64 (.ofNat 0)) S) sl) (fun _ _ _ _ => .no) (fun _ _ _ _ _ _ => .no) (fun _ _ _ => .no) (fun _ _ _ _ _ _ => .no) (fun _ _ _ => .no) (fun _ _ _ _ _ => .no) (fun _ _ _ _ _ => .no) PUnit.unit (fun _ _ _ _ => PUnit.unit) a sl st S
noncomputable def truthQ (orc : SB → Option Bool) (v : AVal) : Option Bool := @AVal.rec (fun _ => (SB → Option Bool) → Option Bool) (fun _ => PUnit) (fun _ _ _ => none) (fun _ _ _ => none) (fun b _ => some b) (fun c orc => orc c) (fun _ _ _ => none) (fun _ _ => none) (fun _ _ => none) (fun _ _ _ _ _ => none) (fun _ => none) (fun _ _ => none) (fun _ _ _ _ => none) (fun _ => none) (fun _ _ _ _ => none) (fun _ => none) (fun _ _ _ => none) (fun _ _ _ => none) PUnit.unit (fun _ _ _ _ => PUnit.unit) v orc
noncomputable def kn (k : IntKind) : Nat := @IntKind.rec (fun _ => Nat) 0 1 2 3 4 5 6 7 k
noncomputable def isKQ (a b : IntKind) : Bool := Nat.beq (kn a) (kn b)
noncomputable def boolQ (b : Bool) (S : St) : RV := @Bool.rec (fun _ => St → RV) (fun S => .ok (.bool false) S) (fun S => .ok (.bool true) S) b S
noncomputable def nboolQ (b : Bool) (S : St) : RV := @Bool.rec (fun _ => St → RV) (fun S => .ok (.bool true) S) (fun S => .ok (.bool false) S) b S
noncomputable def eqQ (a b : Int) : Bool := @Int.rec (fun _ => Int → Bool) (fun m b => @Int.rec (fun _ => Nat → Bool) (fun n m => Nat.beq m n) (fun _ _ => false) b m) (fun m b => @Int.rec (fun _ => Nat → Bool) (fun _ _ => false) (fun n m => Nat.beq m n) b m) a b
noncomputable def leQ (a b : Int) : Bool := @Int.rec (fun _ => Int → Bool) (fun m b => @Int.rec (fun _ => Nat → Bool) (fun n m => Nat.ble m n) (fun _ _ => false) b m) (fun m b => @Int.rec (fun _ => Nat → Bool) (fun _ _ => true) (fun n m => Nat.ble n m) b m) a b
noncomputable def intQ (k : IntKind) (n : Int) (S : St) : RV := rvV (intV k n) S

/-- Two numbers of one kind; what is not here goes by z. -/

noncomputable def binO (op : BinOp) (k : IntKind) (x y : Int) (S : St) (z : RV) : RV := @BinOp.rec (fun _ => IntKind → Int → Int → St → RV → RV) (fun k x y S _ => intQ k (Int.add x y) S) (fun k x y S _ => intQ k (Int.sub x y) S) (fun k x y S _ => intQ k (Int.mul x y) S) (fun _ _ _ _ z => z) (fun _ _ _ _ z => z) (fun _ _ _ _ z => z) (fun _ _ _ _ z => z) (fun _ _ _ _ z => z) (fun _ _ _ _ z => z) (fun _ _ _ _ z => z) (fun _ _ _ _ z => z) (fun _ x y S _ => boolQ (eqQ x y) S) (fun _ x y S _ => nboolQ (eqQ x y) S) (fun _ x y S _ => nboolQ (leQ y x) S) (fun _ x y S _ => boolQ (leQ x y) S) (fun _ x y S _ => nboolQ (leQ x y) S) (fun _ x y S _ => boolQ (leQ y x) S) op k x y S z
noncomputable def binI (b : AVal) (k : IntKind) (x : Int) (op : BinOp) (S : St) (z : RV) : RV := @AVal.rec (fun _ => IntKind → Int → BinOp → St → RV → RV) (fun _ => PUnit) (fun k' y k x op S z => @Bool.rec (fun _ => RV) z (binO op k x y S z) (isKQ k k')) (fun _ _ _ _ _ _ z => z) (fun _ _ _ _ _ z => z) (fun _ _ _ _ _ z => z) (fun _ _ _ _ _ _ z => z) (fun _ _ _ _ _ z => z) (fun _ _ _ _ _ z => z) (fun _ _ _ _ _ _ _ _ z => z) (fun _ _ _ _ z => z) (fun _ _ _ _ _ z => z) (fun _ _ _ _ _ _ _ z => z) (fun _ _ _ _ z => z) (fun _ _ _ _ _ _ _ z => z) (fun _ _ _ _ z => z) (fun _ _ _ _ _ _ z => z) (fun _ _ _ _ _ _ z => z) PUnit.unit (fun _ _ _ _ => PUnit.unit) b k x op S z
noncomputable def binP (a : AVal) (b : AVal) (op : BinOp) (S : St) (z : RV) : RV := @AVal.rec (fun _ => AVal → BinOp → St → RV → RV) (fun _ => PUnit) (fun k x b op S z => binI b k x op S z) (fun _ _ _ _ _ z => z) (fun _ _ _ _ z => z) (fun _ _ _ _ z => z) (fun _ _ _ _ _ z => z) (fun _ _ _ _ z => z) (fun _ _ _ _ z => z) (fun _ _ _ _ _ _ _ z => z) (fun _ _ _ z => z) (fun _ _ _ _ z => z) (fun _ _ _ _ _ _ z => z) (fun _ _ _ z => z) (fun _ _ _ _ _ _ z => z) (fun _ _ _ z => z) (fun _ _ _ _ _ z => z) (fun _ _ _ _ _ z => z) PUnit.unit (fun _ _ _ _ => PUnit.unit) a b op S z
noncomputable def cviP (a : AVal) (k : IntKind) (S : St) : RV := @AVal.rec (fun _ => IntKind → St → RV) (fun _ => PUnit) (fun _ n k S => intQ k n S) (fun _ e k S => .ok (.sym k (.conv k e)) S) (fun _ _ _ => .no) (fun _ _ _ => .no) (fun _ _ _ _ => .no) (fun _ _ _ => .no) (fun _ _ _ => .no) (fun _ _ _ _ _ _ => .no) (fun _ _ => .no) (fun _ _ _ => .no) (fun _ _ _ _ _ => .no) (fun _ _ => .no) (fun _ _ _ _ _ => .no) (fun _ _ => .no) (fun _ _ _ _ => .no) (fun _ _ _ _ => .no) PUnit.unit (fun _ _ _ _ => PUnit.unit) a k S
noncomputable def ncP (a : AVal) (S : St) : RV := @AVal.rec (fun _ => St → RV) (fun _ => PUnit) (fun _ _ _ => .no) (fun _ _ _ => .no) (fun _ _ => .no) (fun _ _ => .no) (fun _ _ _ => .no) (fun _ _ => .no) (fun a S => @Option.rec (Nat × Nat) (fun _ => St → RV) (fun _ => .no) (fun a S => .ok (.ptr (some a)) S) a S) (fun _ _ _ _ _ => .no) (fun _ => .no) (fun _ _ => .no) (fun f cs _ S => .ok (.fn f cs) S) (fun _ => .no) (fun _ _ _ _ => .no) (fun _ => .no) (fun _ _ _ => .no) (fun _ _ _ => .no) PUnit.unit (fun _ _ _ _ => PUnit.unit) a S
noncomputable def notP (a : AVal) (S : St) : RV := @AVal.rec (fun _ => St → RV) (fun _ => PUnit) (fun _ _ _ => .no) (fun _ _ _ => .no) (fun b S => nboolQ b S) (fun c S => .ok (.symb (.not c)) S) (fun _ _ _ => .no) (fun _ _ => .no) (fun _ _ => .no) (fun _ _ _ _ _ => .no) (fun _ => .no) (fun _ _ => .no) (fun _ _ _ _ => .no) (fun _ => .no) (fun _ _ _ _ => .no) (fun _ => .no) (fun _ _ _ => .no) (fun _ _ _ => .no) PUnit.unit (fun _ _ _ _ => PUnit.unit) a S
noncomputable def newQ (B : ABlk) (S : St) : RV := @St.rec (fun _ => ABlk → RV) (fun h n B => @Tr.rec ABlk (fun _ => Nat → RV) (fun _ => .no) (fun x y z _ _ n => forceN (Nat.succ n) fun m => .ok (.ptr (some (n, 0))) ⟨.node x y z, m⟩) (setB h n B) n) S B

/-! #### operations -/
inductive QOp where
  | mv (x : QO)
  | pick (c a b : QO)
  | ld0 (a : QO)
  | st1 (a x : QO)
  | fa (a : QO) (k : Nat)
  | ia (a i : QO) (es : Nat)
  | bin (o : Oper) (op : BinOp) (T : TypeId) (x y : QO)
  | binG (o : Oper) (op : BinOp) (T : TypeId) (x y : QO)
  | ext (x : QO) (i : Nat)
  | fld0 (x : QO) (i : Nat)
  | fldn (x : QO) (i n : Nat)
  | len (x : QO) (sl st : Bool)
  | cvi (x : QO) (k : IntKind)
  | nc (x : QO)
  | not (x : QO)
  | al (z : List AVal)
  | bx (x : QO)
  | call (f : FuncId) (args : List QO)
  | gen (o : Oper)
abbrev QHandler := FuncId → List AVal → St → RV
structure Cx where
  C : QHandler
  P : Program
  orc : SB → Option Bool
def Cx.H (c : Cx) : Handler := fun f xs S => (c.C f xs S).opt
noncomputable def slowBin (c : Cx) (n : Nat) (t : Tr AVal) (E : QE) (S : St) (o : Oper) (op : BinOp) (T : TypeId) (a b : AVal) : RV := rvV (abin c.P ⟨n, t⟩ E.list o op T a b) S
noncomputable def slow (c : Cx) (n : Nat) (t : Tr AVal) (E : QE) (S : St) (o : Oper) : RV := rvOf (evOp c.H c.P c.orc ⟨n, t⟩ E.list S o)

noncomputable def exec (q : QOp) (c : Cx) (n : Nat) (t : Tr AVal) (E : QE) (S : St) : RV := @QOp.rec (fun _ => Cx → Nat → Tr AVal → QE → St → RV)
  (fun x c n t E S => @Option.rec AVal (fun _ => RV) .no (fun v => .ok v S) (evQ x t E))
  (fun x a b c n t E S => @Option.rec AVal (fun _ => RV) .no (fun v => @Option.rec Bool (fun _ => RV) .no (fun w => @Bool.rec (fun _ => RV) (@Option.rec AVal (fun _ => RV) .no (fun v => .ok v S) (evQ b t E)) (@Option.rec AVal (fun _ => RV) .no (fun v => .ok v S) (evQ a t E)) w) (truthQ c.orc v)) (evQ x t E))
  (fun a c n t E S => @Option.rec AVal (fun _ => RV) .no (fun a => ldP a S) (evQ a t E))
  (fun a x c n t E S => @Option.rec AVal (fun _ => RV) .no (fun a => @Option.rec AVal (fun _ => RV) .no (fun v => @Bool.rec (fun _ => RV) .no (st1P a v S) (isCellQ v)) (evQ x t E)) (evQ a t E))
  (fun a k c n t E S => @Option.rec AVal (fun _ => RV) .no (fun a => faP a k S) (evQ a t E))
  (fun a i es c n t E S => @Option.rec AVal (fun _ => RV) .no (fun a => @Option.rec AVal (fun _ => RV) .no (fun i => iaP a i es S) (evQ i t E)) (evQ a t E))
  (fun o op T x y c n t E S => @Option.rec AVal (fun _ => RV) .no (fun a => @Option.rec AVal (fun _ => RV) .no (fun b => binP a b op S (slowBin c n t E S o op T a b)) (evQ y t E)) (evQ x t E))
  (fun o op T x y c n t E S => @Option.rec AVal (fun _ => RV) .no (fun a => @Option.rec AVal (fun _ => RV) .no (fun b => slowBin c n t E S o op T a b) (evQ y t E)) (evQ x t E))
  (fun x i c n t E S => @Option.rec AVal (fun _ => RV) .no (fun a => extP a i S) (evQ x t E))
  (fun x i c n t E S => @Option.rec AVal (fun _ => RV) .no (fun a => fld0P a i S) (evQ x t E))
  (fun x i m c n t E S => @Option.rec AVal (fun _ => RV) .no (fun a => fldnP a i m S) (evQ x t E))
  (fun x sl st c n t E S => @Option.rec AVal (fun _ => RV) .no (fun a => lenP a sl st S) (evQ x t E))
  (fun x k c n t E S => @Option.rec AVal (fun _ => RV) .no (fun a => cviP a k S) (evQ x t E))
  (fun x c n t E S => @Option.rec AVal (fun _ => RV) .no (fun a => ncP a S) (evQ x t E))
  (fun x c n t E S => @Option.rec AVal (fun _ => RV) .no (fun a => notP a S) (evQ x t E))
  (fun z c n t E S => newQ (mkCells z) S)
  (fun x c n t E S => @Option.rec AVal (fun _ => RV) .no (fun a => newQ (mkCells a.cells) S) (evQ x t E))
  (fun f args c n t E S => @Option.rec (List AVal) (fun _ => RV) .no (fun xs => c.C f xs S) (evsQ args t E))
  (fun o c n t E S => slow c n t E S o)
  q c n t E S

inductive QOps where
  | nil
  | op (q : QOp) (d : Nat) (r : QOps)
  | st (q : QOp) (r : QOps)
  | gd (j : Nat) (want : Bool) (q : QOp) (d : Nat) (r : QOps)
  | gs (j : Nat) (want : Bool) (q : QOp) (r : QOps)
  | bad
noncomputable def wq (want b : Bool) : Bool := @Bool.rec (fun _ => Bool → Bool) (fun b => @Bool.rec (fun _ => Bool) true false b) (fun b => b) want b
noncomputable def wantQ (v : AVal) (want : Bool) (orc : SB → Option Bool) : Option Bool := @AVal.rec (fun _ => Bool → (SB → Option Bool) → Option Bool) (fun _ => PUnit) (fun _ _ _ _ => none) (fun _ _ _ _ => none) (fun b want _ => some (wq want b)) (fun c want orc => @Option.rec Bool (fun _ => Option Bool) none (fun b => some (wq want b)) (orc c)) (fun _ _ _ _ => none) (fun _ _ _ => none) (fun _ _ _ => none) (fun _ _ _ _ _ _ => none) (fun _ _ => none) (fun _ _ _ => none) (fun _ _ _ _ _ => none) (fun _ _ => none) (fun _ _ _ _ _ => none) (fun _ _ => none) (fun _ _ _ _ => none) (fun vs _ _ _ => @List.rec AVal (fun _ => Option Bool) (some false) (fun _ _ _ => none) vs) PUnit.unit (fun _ _ _ _ => PUnit.unit) v want orc
noncomputable def exOps (l : QOps) (c : Cx) (n : Nat) (t : Tr AVal) (E : QE) (S : St) : RE := @QOps.rec (fun _ => Cx → Nat → Tr AVal → QE → St → RE)
  (fun _ _ _ E S => .ok E S)
  (fun q d _ ih c n t E S => @RV.rec (fun _ => RE) .no (fun v S => @Bool.rec (fun _ => RE) .no (ih c n t (.cons d v E) S) (Nat.ble (Nat.succ d) n)) (exec q c n t E S))
  (fun q _ ih c n t E S => @RV.rec (fun _ => RE) .no (fun _ S => ih c n t E S) (exec q c n t E S))
  (fun j want q d _ ih c n t E S => @Option.rec AVal (fun _ => RE) .no (fun v => @Option.rec Bool (fun _ => RE) .no (fun w => @Bool.rec (fun _ => RE) (@Bool.rec (fun _ => RE) .no (ih c n t (.cons d (.tuple []) E) S) (Nat.ble (Nat.succ d) n)) (@RV.rec (fun _ => RE) .no (fun v S => @Bool.rec (fun _ => RE) .no (ih c n t (.cons d v E) S) (Nat.ble (Nat.succ d) n)) (exec q c n t E S)) w) (wantQ v want c.orc)) (lkQ t j E))
  (fun j want q _ ih c n t E S => @Option.rec AVal (fun _ => RE) .no (fun v => @Option.rec Bool (fun _ => RE) .no (fun w => @Bool.rec (fun _ => RE) (ih c n t E S) (@RV.rec (fun _ => RE) .no (fun _ S => ih c n t E S) (exec q c n t E S)) w) (wantQ v want c.orc)) (lkQ t j E))
  (fun _ _ _ _ _ => .no)
  l c n t E S

noncomputable def putQ (E : QE) (keep n : Nat) (t : Tr AVal) : Option (Tr AVal) := @QE.rec (fun _ => Nat → Nat → Tr AVal → Option (Tr AVal)) (fun _ _ t => some t)
  (fun d v _ ih keep n t => @Option.rec (Tr AVal) (fun _ => Option (Tr AVal)) none (fun t => @Bool.rec (fun _ => Option (Tr AVal)) (some t)
    (@Bool.rec (fun _ => Option (Tr AVal)) none (@Tr.rec AVal (fun _ => Option (Tr AVal)) none (fun a b c _ _ => some (.node a b c)) (setA t d v)) (Nat.ble (Nat.succ d) n)) (Nat.beq (Nat.land (Nat.shiftRight keep d) 1) 1)) (ih keep n t)) E keep n t

/-! #### regions whose order is open -/
inductive QD where
  | nil
  | pure (g : Option (Nat × Bool)) (q : QOp) (d : Option Nat) (r : QD)
  | read (lo : Nat) (g : Option (Nat × Bool)) (q : QOp) (d : Option Nat) (r : QD)
  | make (g : Option (Nat × Bool)) (q : QOp) (d : Option Nat) (r : QD)
  | eff (g : Option (Nat × Bool)) (q : QOp) (d : Option Nat) (r : QD)
  | mark (lo : Nat) (g : Option (Nat × Bool)) (o : Oper) (d : Option Nat) (r : QD)
  | bad
noncomputable def guardQ (g : Option (Nat × Bool)) (orc : SB → Option Bool) (t : Tr AVal) (E : QE) : Option Bool := @Option.rec (Nat × Bool) (fun _ => (SB → Option Bool) → Tr AVal → QE → Option Bool) (fun _ _ _ => some true)
  (fun p orc t E => @Prod.rec Nat Bool (fun _ => Option Bool) (fun j want => @Option.rec AVal (fun _ => Option Bool) none (fun v => wantQ v want orc) (lkQ t j E)) p) g orc t E
noncomputable def pushQ (d : Option Nat) (n : Nat) (v : AVal) (E : QE) (k : QE → RE) : RE := @Option.rec Nat (fun _ => Nat → AVal → QE → (QE → RE) → RE) (fun _ _ E k => k E)
  (fun d n v E k => @Bool.rec (fun _ => RE) .no (k (.cons d v E)) (Nat.ble (Nat.succ d) n)) d n v E k
noncomputable def exD (l : QD) (c : Cx) (n : Nat) (t : Tr AVal) (E : QE) (S : St) (Hs : List St) : RE := @QD.rec (fun _ => Cx → Nat → Tr AVal → QE → St → List St → RE)
  (fun _ _ _ E S _ => .ok E S)
  (fun g q d _ ih c n t E S Hs => @Option.rec Bool (fun _ => RE) .no (fun w => @Bool.rec (fun _ => RE) (pushQ d n (.tuple []) E fun E => ih c n t E S Hs)
    (@RV.rec (fun _ => RE) .no (fun v _ => pushQ d n v E fun E => ih c n t E S Hs) (exec q c n t E S)) w) (guardQ g c.orc t E))
  (fun lo g q d _ ih c n t E S Hs => @Option.rec Bool (fun _ => RE) .no (fun w => @Bool.rec (fun _ => RE) (pushQ d n (.tuple []) E fun E => ih c n t E S Hs)
    (@List.rec St (fun _ => RE) .no (fun H l _ => @RV.rec (fun _ => RE) .no (fun v _ => @Option.rec Unit (fun _ => RE) .no (fun _ => pushQ d n v E fun E => ih c n t E S Hs) (looks (fun H => (exec q c n t E H).opt) v l lo)) (exec q c n t E H)) Hs) w) (guardQ g c.orc t E))
  (fun g q d _ ih c n t E S Hs => @Option.rec Bool (fun _ => RE) .no (fun w => @Bool.rec (fun _ => RE) (pushQ d n (.tuple []) E fun E => ih c n t E S Hs)
    (@RV.rec (fun _ => RE) .no (fun v S => pushQ d n v E fun E => ih c n t E S Hs) (exec q c n t E S)) w) (guardQ g c.orc t E))
  (fun g q d _ ih c n t E S Hs => @Option.rec Bool (fun _ => RE) .no (fun w => @Bool.rec (fun _ => RE) (pushQ d n (.tuple []) E fun E => ih c n t E S (S :: Hs))
    (@RV.rec (fun _ => RE) .no (fun v S => pushQ d n v E fun E => ih c n t E S (S :: Hs)) (exec q c n t E S)) w) (guardQ g c.orc t E))
  (fun lo g o d _ ih c n t E S Hs => @Option.rec Bool (fun _ => RE) .no (fun w => @Bool.rec (fun _ => RE) (pushQ d n (.tuple []) E fun E => ih c n t E S Hs)
    (@RV.rec (fun _ => RE) .no (fun v S => pushQ d n v E fun E => ih c n t E S Hs) (rvOf (markA c.P ⟨n, t⟩ E.list S Hs lo o))) w) (guardQ g c.orc t E))
  (fun _ _ _ _ _ _ => .no)
  l c n t E S Hs

/-! #### code -/
inductive QC where
  | skip
  | reg (ops : QOps)
  | draw (l : QD)
  | seq (a b : QC)
  | cond (x : QO) (a b : QC)
  | block (id : Nat) (b : QC)
  | loop (b : QC)
  | exit (id : Nat)
  | ret
  | bad

noncomputable def exC (q : QC) (c : Cx) (n kp fu : Nat) (t : Tr AVal) (S : St) : RC := @QC.rec (fun _ => Cx → Nat → Nat → Nat → Tr AVal → St → RC)
  (fun c n kp fu t S => .nor t S)
  (fun ops c n kp fu t S => @RE.rec (fun _ => RC) .no (fun E S => @Option.rec (Tr AVal) (fun _ => RC) .no (fun t => .nor t S) (putQ E kp n t)) (exOps ops c n t .nil S))
  (fun l c n kp fu t S => @RE.rec (fun _ => RC) .no (fun E S => @Option.rec (Tr AVal) (fun _ => RC) .no (fun t => .nor t S) (putQ E kp n t)) (exD l c n t .nil S [S]))
  (fun _ _ iha ihb c n kp fu t S => @RC.rec (fun _ => RC) .no (fun t S => ihb c n kp fu t S) (fun id t S => .ex id t S) (fun t S => .ret t S) (iha c n kp fu t S))
  (fun x _ _ iha ihb c n kp fu t S => @Option.rec AVal (fun _ => RC) .no (fun v => @Option.rec Bool (fun _ => RC) .no (fun w => @Bool.rec (fun _ => RC) (ihb c n kp fu t S) (iha c n kp fu t S) w) (truthQ c.orc v)) (evQ x t .nil))
  (fun id _ ih c n kp fu t S => @RC.rec (fun _ => RC) .no (fun t S => .nor t S) (fun id' t S => @Bool.rec (fun _ => RC) (.ex id' t S) (.nor t S) (Nat.beq id' id)) (fun t S => .ret t S) (ih c n kp fu t S))
  (fun _ ih c n kp fu t S => @Nat.rec (fun _ => Tr AVal → St → RC) (fun _ _ => .no) (fun _ rec t S => @RC.rec (fun _ => RC) .no (fun t S => rec t S) (fun id t S => .ex id t S) (fun t S => .ret t S) (ih c n kp fu t S)) fu t S)
  (fun id c n kp fu t S => .ex id t S)
  (fun c n kp fu t S => .ret t S)
  (fun _ _ _ _ _ _ => .no)
  q c n kp fu t S

/-! #### functions -/
inductive QR where
  | t (n : Nat)
  | c0 (a : Nat)
  | cn (a n : Nat)
  | bad
noncomputable def ldV (a : AVal) (S : St) : Option AVal := @AVal.rec (fun _ => St → Option AVal) (fun _ => PUnit) (fun _ _ _ => none) (fun _ _ _ => none) (fun _ _ => none) (fun _ _ => none) (fun _ _ _ => none) (fun _ _ => none) (fun a S => @Option.rec (Nat × Nat) (fun _ => St → Option AVal) (fun _ => none) (fun p S => @Prod.rec Nat Nat (fun _ => St → Option AVal) (fun b i S => loadQ S b i) p S) a S) (fun _ _ _ _ _ => none) (fun _ => none) (fun _ _ => none) (fun _ _ _ _ => none) (fun _ => none) (fun _ _ _ _ => none) (fun _ => none) (fun _ _ _ => none) (fun _ _ _ => none) PUnit.unit (fun _ _ _ _ => PUnit.unit) a S
noncomputable def ldnV (a : AVal) (n : Nat) (S : St) : Option AVal := @AVal.rec (fun _ => Nat → St → Option AVal) (fun _ => PUnit) (fun _ _ _ _ => none) (fun _ _ _ _ => none) (fun _ _ _ => none) (fun _ _ _ => none) (fun _ _ _ _ => none) (fun _ _ _ => none) (fun a n S => @Option.rec (Nat × Nat) (fun _ => Nat → St → Option AVal) (fun _ _ => none) (fun p n S => @Prod.rec Nat Nat (fun _ => Nat → St → Option AVal) (fun b i n S => oget (S.loads b i n) fun l => some (.agg l)) p n S) a n S) (fun _ _ _ _ _ _ => none) (fun _ _ => none) (fun _ _ _ => none) (fun _ _ _ _ _ => none) (fun _ _ => none) (fun _ _ _ _ _ => none) (fun _ _ => none) (fun _ _ _ _ => none) (fun _ _ _ _ => none) PUnit.unit (fun _ _ _ _ => PUnit.unit) a n S
noncomputable def resQ1 (r : QR) (t : Tr AVal) (S : St) : Option AVal := @QR.rec (fun _ => Tr AVal → St → Option AVal) (fun n t _ => getA t n) (fun a t S => @Option.rec AVal (fun _ => Option AVal) none (fun v => ldV v S) (getA t a))
  (fun a n t S => @Option.rec AVal (fun _ => Option AVal) none (fun v => ldnV v n S) (getA t a)) (fun _ _ => none) r t S
noncomputable def resQ (l : List QR) (t : Tr AVal) (S : St) : Option (List AVal) := @List.rec QR (fun _ => Tr AVal → St → Option (List AVal)) (fun _ _ => some [])
  (fun r _ ih t S => @Option.rec AVal (fun _ => Option (List AVal)) none (fun v => @Option.rec (List AVal) (fun _ => Option (List AVal)) none (fun l => some (v :: l)) (ih t S)) (resQ1 r t S)) l t S
noncomputable def oneQ (l : List AVal) (S : St) : RV := @List.rec AVal (fun _ => St → RV) (fun S => .ok (.tuple []) S) (fun v r _ S => @List.rec AVal (fun _ => AVal → St → RV) (fun v S => .ok v S) (fun u r _ v S => .ok (.tuple (v :: u :: r)) S) r v S) l S
noncomputable def initQ (l : List AVal) (keep i : Nat) (t : Tr AVal) : Tr AVal := @List.rec AVal (fun _ => Nat → Nat → Tr AVal → Tr AVal) (fun _ _ t => t)
  (fun v _ ih keep i t => ih keep (Nat.succ i) (@Bool.rec (fun _ => Tr AVal) t (setA t i v) (Nat.beq (Nat.land (Nat.shiftRight keep i) 1) 1))) l keep i t
inductive QFun where
  | mk (nt keep : Nat) (res : List QR) (code : QC)
  | bad
noncomputable def callQ (T : FuncId → Option QFun) (B : Handler) (P : Program) (orc : SB → Option Bool) (fuel : Nat) (d : Nat) : QHandler :=
  @Nat.rec (fun _ => QHandler) (fun f xs S => rvOf (B f xs S))
    (fun _ ih f xs S => @Option.rec QFun (fun _ => RV) (rvOf (B f xs S)) (fun A => @QFun.rec (fun _ => RV) (fun nt keep res code =>
      @Bool.rec (fun _ => RV) .no
        (@Tr.rec AVal (fun _ => RV)
          (@RC.rec (fun _ => RV) .no (fun t S => @Option.rec (List AVal) (fun _ => RV) .no (fun l => oneQ l S) (resQ res t S)) (fun _ _ _ => .no) (fun t S => @Option.rec (List AVal) (fun _ => RV) .no (fun l => oneQ l S) (resQ res t S)) (exC code ⟨ih, P, orc⟩ nt keep fuel .leaf S))
          (fun a b c _ _ => @RC.rec (fun _ => RV) .no (fun t S => @Option.rec (List AVal) (fun _ => RV) .no (fun l => oneQ l S) (resQ res t S)) (fun _ _ _ => .no) (fun t S => @Option.rec (List AVal) (fun _ => RV) .no (fun l => oneQ l S) (resQ res t S)) (exC code ⟨ih, P, orc⟩ nt keep fuel (.node a b c) S))
          (initQ xs keep 0 .leaf))
        (Nat.ble xs.length nt)) .no A) (T f)) d

/-! #### laying out -/
def comp (P : Program) (o : Oper) : QOp :=
  match o.op with
  | .move x | .assign x => .mv (qo x)
  | .pick c a b => .pick (qo c) (qo a) (qo b)
  | .load t a => match aggSize P t with
    | some none => .ld0 (qo a)
    | _ => .gen o
  | .store t a x => match cellsOf? P t with
    | some n => bsel (Nat.beq n 1) (.st1 (qo a) (qo x)) (.gen o)
    | none => .gen o
  | .fieldAddr s x f => match fieldOff P s f with
    | some k => .fa (qo x) k
    | none => .gen o
  | .indexAddr T x i => match eltSize P T with
    | some es => .ia (qo x) (qo i) es
    | none => .gen o
  | .binOp op T x y _ => match isIntT P T with
    | some _ => .bin o op T (qo x) (qo y)
    | none => .binG o op T (qo x) (qo y)
  | .nilCheck x => .nc (qo x)
  | .unOp op _ x => match op with
    | .not => .not (qo x)
    | _ => .gen o
  | .alloc T => match typeZero P T with
    | some z => .al z
    | none => .gen o
  | .box _ x => .bx (qo x)
  | .extract x i => .ext (qo x) i
  | .field s x f => match fieldAt? P s f with
    | some (i, none) => .fld0 (qo x) i
    | some (i, some n) => .fldn (qo x) i n
    | none => .gen o
  | .convert s d x => match P.underlying s, isIntT P d with
    | some _, some k => .cvi (qo x) k
    | _, _ => .gen o
  | .call c => match c.callee with
    | .value (.func f) => match P.funcs[f]? with
      | some fn => bsel fn.body.isSome (.call f (c.args.toList.map qo)) (.gen o)
      | none => .gen o
    | .builtin .len => match c.argTypes[0]?, c.args.toList with
      | some T, [x] => .len (qo x) (isSliceT P T) (isStringT P T)
      | _, _ => .gen o
    | _ => .gen o
  | _ => .gen o
def compOps (P : Program) (ops : Array Oper) : List Oper → QOps
  | [] => .nil
  | o :: l => match o.guard with
    | none => match o.dst with
      | some d => .op (comp P o) d (compOps P ops l)
      | none => .st (comp P o) (compOps P ops l)
    | some (j, want) => match ops[j]? with
      | some g => match g.dst with
        | some j => match o.dst with
          | some d => .gd j want (comp P o) d (compOps P ops l)
          | none => .gs j want (comp P o) (compOps P ops l)
        | none => .bad
      | none => .bad
/-- A guard: whose value it asks. -/
def compG (ops : Array Oper) (o : Oper) : Option (Option (Nat × Bool)) :=
  match o.guard with
  | none => some none
  | some (j, want) => match ops[j]? with
    | some g => match g.dst with
      | some j => some (some (j, want))
      | none => none
    | none => none
def compD (P : Program) (ops : Array Oper) : List Item → QD
  | [] => .nil
  | it :: l => match ops[it.i]? with
    | none => .bad
    | some o => match compG ops o with
      | none => .bad
      | some g => match it.cls with
        | 0 => .pure g (comp P o) o.dst (compD P ops l)
        | 1 => .read it.lo g (comp P o) o.dst (compD P ops l)
        | 2 => .make g (comp P o) o.dst (compD P ops l)
        | 3 => .eff g (comp P o) o.dst (compD P ops l)
        | 4 => .mark it.lo g o o.dst (compD P ops l)
        | _ => .bad
def compC (P : Program) (I : Info) : Code → QC
  | .skip => .skip
  | .region id ops draw => bsel draw (match findPlan id I.plans with | some l => .draw (compD P ops l) | none => .bad) (.reg (compOps P ops ops.toList))
  | .seq a b => .seq (compC P I a) (compC P I b)
  | .cond x a b => .cond (qo x) (compC P I a) (compC P I b)
  | .block id b => .block id (compC P I b)
  | .loop b => .loop (compC P I b)
  | .exit id => .exit id
  | .ret => .ret
  | _ => .bad
def compR (P : Program) : ResultVar → QR
  | .tmp t => .t t
  | .cell a T => match aggSize P T with
    | some none => .c0 a
    | some (some n) => .cn a n
    | none => .bad
def compF (P : Program) (A : AFun) : QFun :=
  match A.fn.body with
  | some body => .mk A.fn.ntmps A.info.keep (A.fn.results.toList.map (compR P)) (compC P A.info body)
  | none => .bad
end Go.Abs
