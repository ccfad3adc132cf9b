/- The verified abstract interpreter, a part of it: no statement of its own. -/
import Derived.Calls
set_option linter.unusedVariables false
set_option linter.unusedSimpArgs false
namespace Go.Va
/-- the type of the one kind of block of two cells, if there is one alone (that of strings.Builder) -/
def bldT : Option Nat := none
end Go.Va
set_option linter.unusedVariables false
namespace Go.Va

inductive Perm where
  | imm | full | ro
  deriving DecidableEq

inductive Home where
  | slot (t : Nat)
  | cell (i off : Nat)
  deriving DecidableEq

/-- Abstract values. s: just this value. agg: a struct, by its cells. sl: a slice, by its elements, each of z cells. al: what stands for a part of the slice that lies at a home.
rp: a pointer to cells that don't change (while this call runs). ep: a pointer into element i of the slice at a home. ptr: a pointer to a cell of an object. nb: a pointer to a new variable. -/
inductive AV where
  | s (v : Value)
  | agg (xs : List AV)
  | tup (xs : List AV)
  | sl (z : Nat) (xs : List AV) (p : Perm)
  | al (z : Nat) (h : Home) (lo len : Nat)
  | rp (ro : Bool) (xs : List AV)
  | ep (h : Home) (i off : Nat)
  | ptr (i off : Nat)
  | nb (xs : List AV)
  | fn (f : Nat) (first caps : List AV)
  | gone
  | unk

inductive TK where
  | bool | int (k : IntKind) | str | iface | ptr | slice | fn | struct | map | other

structure Ty where
  k : TK
  size : Nat
  bytes : Nat
  zero : List AV
  elem : Nat
  offs : List (Option (Nat × Nat))
  eq : List TK

def Ty.isSlice (t : Ty) : Bool := match t.k with | .slice => true | _ => false
def Ty.isBool (t : Ty) : Bool := match t.k with | .bool => true | _ => false
def Ty.isPtr (t : Ty) : Bool := match t.k with | .ptr => true | _ => false
def Ty.isIface (t : Ty) : Bool := match t.k with | .iface => true | _ => false
def Ty.isInt (t : Ty) : Bool := match t.k with | .int _ => true | _ => false
def Ty.plainK (t : Ty) : Bool := match t.k with | .iface => false | .other => false | _ => true
def Ty.isAgg (t : Ty) : Bool := match t.k with | .struct => true | _ => false
def Ty.isByte (t : Ty) : Bool := match t.k with | .int .u8 => true | _ => false
def Ty.isStr (t : Ty) : Bool := match t.k with | .str => true | _ => false

abbrev Fr := List (Nat × AV)
abbrev Obj := List AV
abbrev Seg := List Obj

/-- n: how many slots; k: how many of the objects are the caller's -/
structure St where
  n : Nat
  k : Nat
  fr : Fr
  O : Seg

/-- What is reckoned with numbers and texts; kept apart, so that it isn't unfolded while a function's text is gone through. -/
structure Ar where
  add : IntKind → Int → Int → Int
  sub : IntKind → Int → Int → Int
  mul : IntKind → Int → Int → Int
  rem : Int → Int → Int
  quo : IntKind → Int → Int → Int
  wr : IntKind → Int → Int
  shr : Int → Nat → Int
  eq : Int → Int → Bool
  lt : Int → Int → Bool
  le : Int → Int → Bool
  seq : ByteArray → ByteArray → Bool
  slt : ByteArray → ByteArray → Bool
  cat : ByteArray → ByteArray → ByteArray
  cut : ByteArray → Nat → Nat → ByteArray
  siz : ByteArray → Nat
  at_ : ByteArray → Nat → Option Int
  nle : Nat → Nat → Bool
  neq : Nat → Nat → Bool
  fit : Nat → Nat → Bool
def realAr : Ar where
  add k a b := k.wrap (a + b)
  sub k a b := k.wrap (a - b)
  mul k a b := k.wrap (a * b)
  rem a b := a.tmod b
  quo k a b := k.wrap (a.tdiv b)
  wr k a := k.wrap a
  shr a n := a / 2 ^ n
  eq a b := a == b
  lt a b := decide (a < b)
  le a b := decide (a ≤ b)
  seq a b := a.data.toList == b.data.toList
  slt a b := Go.Op.bytesLess a.data.toList b.data.toList
  cat a b := a ++ b
  cut s l h := s.extract l h
  siz s := s.size
  at_ s i := match s[i]? with
    | some b => some (.ofNat b.toNat)
    | none => none
  nle a b := decide (a ≤ b)
  neq a b := a == b
  fit n b := decide (n * b ≤ 70368744177664)

inductive Ex where
  | normal | exit (id : Nat) | ret

/-- what is asked of a run, and what comes of it -/
inductive Task where
  | code (f : Nat) (c : Code) (st : St)
  | call (f : Nat) (args : List AV) (O : Seg)
inductive Res where
  | code (e : Ex) (st : St)
  | ret (v : AV) (O : Seg)

inductive Prog where
  | done (r : Option Res)
  | ask (t : Task) (k : Res → Prog)

def Prog.run (f : Task → Option Res) : Prog → Option Res
  | .done r => r
  | .ask t k => match f t with
    | some r => (k r).run f
    | none => none

structure Env where
  A : Ar
  fn : Nat → Option Func
  ty : Nat → Option Ty
  live : Nat → Nat → List Nat
  cons : Nat → List Nat
  pure : Nat → Bool
  ext : Nat → Option (List AV → Seg → Prog)

/-- the type of a slice type's elements -/
def Env.elemOf (env : Env) (t : Nat) : Option Ty := match env.ty t with
  | some ty => bif ty.isSlice then env.ty ty.elem else none
  | none => none
def kindEq : IntKind → IntKind → Bool
  | .i8, .i8 | .i16, .i16 | .i32, .i32 | .i64, .i64 | .u8, .u8 | .u16, .u16 | .u32, .u32 | .u64, .u64 => true
  | _, _ => false
/-- in a list, by its place -/
def lget {α : Type} : List α → Nat → Option α
  | [], _ => none
  | x :: _, 0 => some x
  | _ :: l, i + 1 => lget l i
def lset {α : Type} : List α → Nat → α → List α
  | [], _, _ => []
  | _ :: l, 0, y => y :: l
  | x :: l, i + 1, y => x :: lset l i y
/-- n elements from i on; none if there are not so many -/
def lcut {α : Type} (l : List α) (i n : Nat) : List α := (l.drop i).take n

def AV.cells : AV → List AV
  | .agg xs => xs
  | x => [x]
def AV.isAl : AV → Bool
  | .al .. | .ep .. => true
  | _ => false
def AV.owner : AV → Bool
  | .sl .. | .nb _ | .gone => true
  | _ => false

/-- data: what may lie in a slice: no pointers, no owners -/
def AV.data1 : AV → Option AV
  | .s v => some (.s v)
  | .sl z xs .imm => some (.sl z xs .imm)
  | .sl z xs .full => some (.sl z xs .imm)
  | _ => none
def dataL : List AV → Option (List AV)
  | [] => some []
  | x :: xs => match x.data1, dataL xs with
    | some y, some ys => some (y :: ys)
    | _, _ => none
def AV.data : AV → Option AV
  | .agg xs => match dataL xs with
    | some ys => some (.agg ys)
    | none => none
  | x => x.data1

/-- cells of a struct that is handed on as a value: what was owned is frozen -/
def AV.plain1 : AV → Option AV
  | .s v => some (.s v)
  | .sl z xs .imm => some (.sl z xs .imm)
  | .sl z xs .full => some (.sl z xs .imm)
  | .rp false xs => some (.rp false xs)
  | .ptr i off => some (.ptr i off)
  | .unk => some .unk
  | _ => none
def plainL : List AV → Option (List AV)
  | [] => some []
  | x :: xs => match x.plain1, plainL xs with
    | some y, some ys => some (y :: ys)
    | _, _ => none

def fget (fr : Fr) (t : Nat) : AV :=
  match fr with
  | [] => .unk
  | (u, v) :: l => bif Nat.beq u t then v else fget l t
def AV.atSlot (t : Nat) : AV → Bool
  | .al _ (.slot u) _ _ | .ep (.slot u) _ _ => Nat.beq u t
  | _ => false
def AV.atCell (i off : Nat) : AV → Bool
  | .al _ (.cell b c) _ _ | .ep (.cell b c) _ _ => Nat.beq b i && Nat.beq c off
  | _ => false
def killSlot (t : Nat) : Fr → Fr
  | [] => []
  | (u, v) :: fr => (u, bif v.atSlot t then .unk else v) :: killSlot t fr
def killCell (i off : Nat) : Fr → Fr
  | [] => []
  | (u, v) :: fr => (u, bif v.atCell i off then .unk else v) :: killCell i off fr
def fset (fr : Fr) (t : Nat) (v : AV) : Fr := bif (fget fr t).owner then (t, v) :: killSlot t fr else (t, v) :: fr

def objAt (st : St) (i : Nat) : Option Obj := lget st.O i
def setObj (st : St) (i : Nat) (o : Obj) : St := { st with O := lset st.O i o }
def homeGet (st : St) : Home → AV
  | .slot t => fget st.fr t
  | .cell i off => match objAt st i with
    | some o => match lget o off with
      | some v => v
      | none => .unk
    | none => .unk
/-- what lies at a home is turned: aliases of it live on -/
def homePut (st : St) (h : Home) (v : AV) : St :=
  match h with
  | .slot t => { st with fr := (t, v) :: st.fr }
  | .cell i off => match objAt st i with
    | some o => setObj st i (lset o off v)
    | none => st

/-- a slice's elements -/
def elems (A : Ar) (st : St) : AV → Option (Nat × List AV)
  | .sl z xs _ => some (z, xs)
  | .al z h lo len => match homeGet st h with
    | .sl z xs _ => bif A.nle (lo + len) xs.length then some (z, lcut xs lo len) else none
    | _ => none
  | _ => none
def lenOf (A : Ar) (ty : Ty) : AV → Option Nat
  | .sl z xs _ => bif ty.isSlice then some xs.length else none
  | .al _ _ _ len => bif ty.isSlice then some len else none
  | .s (.string s) => bif ty.isStr then some (A.siz s) else none
  | _ => none

def constV : Value → AV
  | .slice none 0 0 => .sl 0 [] .imm
  | .bool b => .s (.bool b)
  | .int k n => .s (.int k n)
  | .string s => .s (.string s)
  | .pointer none => .s (.pointer none)
  | .nilIface => .s .nilIface
  | .nilFunc => .s .nilFunc
  | .map none => .s (.map none)
  | _ => .unk
def opd (st : St) : Operand → AV
  | .tmp t => fget st.fr t
  | .const v => constV v
  | .func f => .fn f [] []
  | .global _ => .unk

def okCaps : List AV → Bool
  | [] => true
  | .s _ :: l => okCaps l
  | .ptr _ _ :: l => okCaps l
  | .sl _ _ .imm :: l => okCaps l
  | .rp _ _ :: l => okCaps l
  | _ => false

/-- whether some of the cells are owned slices -/
def anyFull : List AV → Bool
  | [] => false
  | .sl _ _ .full :: _ => true
  | _ :: xs => anyFull xs
/-- what may stand in two places -/
def keepCells : List AV → Bool
  | [] => true
  | .s _ :: l => keepCells l
  | .ptr _ _ :: l => keepCells l
  | .rp _ _ :: l => keepCells l
  | .sl _ _ .imm :: l => keepCells l
  | _ => false
def AV.keepable : AV → Bool
  | .s _ | .ptr _ _ | .rp _ _ | .sl _ _ .imm | .sl _ _ .ro => true
  | .agg xs => keepCells xs
  | _ => false
def copyV (st : St) (x : Operand) : Option (AV × St) :=
  match x with
  | .tmp t => match fget st.fr t with
    | .sl z xs .full => some (.al z (.slot t) 0 xs.length, st)
    | .tup xs => some (.tup xs, { st with fr := (t, .gone) :: st.fr })
    | .agg xs => match plainL xs with
      | some ys => some (.agg ys, bif anyFull xs then { st with fr := (t, .agg ys) :: st.fr } else st)
      | none => none
    | .nb _ => none
    | .gone => none
    | .fn f a b => bif okCaps a && okCaps b then some (.fn f a b, st) else none
    | v => some (v, st)
  | x => some (opd st x, st)

/-- the value goes over to its new place -/
def takeV (st : St) (x : Operand) : Option (AV × St) :=
  match x with
  | .tmp t => match fget st.fr t with
    | .sl z xs .full => some (.sl z xs .full, { st with fr := (t, .gone) :: st.fr })
    | .nb xs => some (.nb xs, { st with fr := (t, .gone) :: st.fr })
    | .tup xs => some (.tup xs, { st with fr := (t, .gone) :: st.fr })
    | .agg xs => some (.agg xs, { st with fr := (t, .gone) :: st.fr })
    | .gone => none
    | .fn f a b => bif okCaps a && okCaps b then some (.fn f a b, st) else none
    | v => some (v, st)
  | x => some (opd st x, st)
def freezeAt (st : St) (h : Home) : Option (Nat × List AV × St) :=
  match homeGet st h with
  | .sl z xs .full => some (z, xs, homePut st h (.sl z xs .imm))
  | .sl z xs .imm => some (z, xs, st)
  | _ => none
/-- the same; an alias becomes a value: what it stands for is frozen -/
def valueV (A : Ar) (st : St) (x : Operand) : Option (AV × St) :=
  match takeV st x with
  | some (.al z h lo len, st) => match freezeAt st h with
    | some (z, xs, st) => bif A.nle (lo + len) xs.length then some (.sl z (lcut xs lo len) .imm, st) else none
    | none => none
  | some (.sl _ _ .ro, _) => none
  | some (.ep .., _) => none
  | r => r

def boolOf : AV → Option Bool
  | .s (.bool b) => some b
  | _ => none
def natOf (a : AV) : Option Nat :=
  match a with
  | .s (.int _ (.ofNat n)) => some n
  | _ => none

/-! ### Arithmetic and comparison -/
def arith (A : Ar) (op : BinOp) (k : IntKind) (a b : Int) : Option AV :=
  match op with
  | .add => some (.s (.int k (A.add k a b)))
  | .sub => some (.s (.int k (A.sub k a b)))
  | .mul => some (.s (.int k (A.mul k a b)))
  | .rem => bif A.eq b 0 then none else some (.s (.int k (A.rem a b)))
  | .quo => bif A.eq b 0 then none else some (.s (.int k (A.quo k a b)))
  | .eql => some (.s (.bool (A.eq a b)))
  | .neq => some (.s (.bool (!(A.eq a b))))
  | .lss => some (.s (.bool (A.lt a b)))
  | .leq => some (.s (.bool (A.le a b)))
  | .gtr => some (.s (.bool (A.lt b a)))
  | .geq => some (.s (.bool (A.le b a)))
  | _ => none
def strOp (A : Ar) (op : BinOp) (a b : ByteArray) : Option AV :=
  match op with
  | .add => bif A.nle (A.siz a + A.siz b) 9223372036854775807 then some (.s (.string (A.cat a b))) else none
  | .eql => some (.s (.bool (A.seq a b)))
  | .neq => some (.s (.bool (!(A.seq a b))))
  | .lss => some (.s (.bool (A.slt a b)))
  | .gtr => some (.s (.bool (!(A.slt a b || A.seq a b))))
  | _ => none
/-- cells of scalars -/
def eqv1 (A : Ar) : TK → AV → AV → Option Bool
  | .bool, .s (.bool a), .s (.bool b) => some (a == b)
  | .int _, .s (.int j a), .s (.int k b) => bif kindEq j k then some (A.eq a b) else none
  | .str, .s (.string a), .s (.string b) => some (A.seq a b)
  | _, _, _ => none
def eqvL (A : Ar) : List TK → List AV → List AV → Option Bool
  | [], [], [] => some true
  | k :: ks, x :: xs, y :: ys => match eqv1 A k x y, eqvL A ks xs ys with
    | some a, some b => some (a && b)
    | _, _ => none
  | _, _, _ => none
/-- ty: of the operands; dy: of what an interface holds -/
def eqvV (A : Ar) (ty : Ty) (dy : Nat → Option Ty) (a b : AV) : Option Bool :=
  match a, b with
  | .s (.bool a), .s (.bool b) => bif ty.isBool then some (a == b) else none
  | .agg xs, .agg ys => match ty.eq with
    | [] => none
    | k :: ks => eqvL A (k :: ks) xs ys
  | .s .nilIface, .s (.iface _ _) => bif ty.isIface then some false else none
  | .s (.iface _ _), .s .nilIface => bif ty.isIface then some false else none
  | .s (.iface t (.int j a)), .s (.iface u (.int k b)) => bif ty.isIface then (bif Nat.beq t u then (match dy t with
      | some d => bif d.isInt && kindEq j k then some (A.eq a b) else none
      | none => none) else some false) else none
  | .ptr _ _, .s (.pointer none) => bif ty.isPtr then some false else none
  | .s (.pointer none), .ptr _ _ => bif ty.isPtr then some false else none
  | .rp _ _, .s (.pointer none) => bif ty.isPtr then some false else none
  | .s (.pointer none), .rp _ _ => bif ty.isPtr then some false else none
  | .s (.pointer none), .s (.pointer none) => bif ty.isPtr then some true else none
  | _, _ => none
/-- a shift to the right, by less than 64 -/
def shrV (A : Ar) (j k : IntKind) (a b : Int) : Option AV :=
  match b with
  | .ofNat n => bif Nat.blt n 64 && kindEq j .u64 then some (.s (.int j (A.shr a n))) else none
  | _ => none
def binV (A : Ar) (op : BinOp) (a b : AV) : Option AV :=
  match a, b with
  | .s (.int j a), .s (.int k b) => match op with
    | .shr => shrV A j k a b
    | op => bif kindEq j k then arith A op k a b else none
  | .s (.string a), .s (.string b) => strOp A op a b
  | _, _ => none
def isConstO : Operand → Bool
  | .const _ => true
  | _ => false
def cmpV (A : Ar) (ty : Ty) (dy : Nat → Option Ty) (x y : Operand) (a b : AV) : Option Bool :=
  match a, b with
  | .s .nilIface, .s .nilIface => bif ty.isIface && (isConstO x || isConstO y) then some true else none
  | a, b => eqvV A ty dy a b
def isNilConst : Operand → Bool
  | .const (.slice none 0 0) => true
  | _ => false
def nilCmp (ty : Ty) (a : AV) : Option Bool :=
  match a with
  | .sl _ (_ :: _) _ => bif ty.isSlice then some false else none
  | .al _ _ _ (_ + 1) => bif ty.isSlice then some false else none
  | _ => none
def binO (A : Ar) (ty : Nat → Option Ty) (op : BinOp) (t : Nat) (x y : Operand) (a b : AV) : Option AV :=
  match binV A op a b with
  | some v => some v
  | none => match ty t with
    | none => none
    | some ty1 => match op with
      | .eql => match (bif isNilConst y then nilCmp ty1 a else cmpV A ty1 ty x y a b) with
        | some r => some (.s (.bool r))
        | none => none
      | .neq => match (bif isNilConst y then nilCmp ty1 a else cmpV A ty1 ty x y a b) with
        | some r => some (.s (.bool (!r)))
        | none => none
      | _ => none

/-! ### Reading and writing memory -/
def readCell (x : AV) (i off : Nat) : Option AV :=
  match x with
  | .sl z xs .imm => some (.sl z xs .imm)
  | .sl z xs .ro => some (.al z (.cell i off) 0 xs.length)
  | .sl z xs .full => some (.al z (.cell i off) 0 xs.length)
  | .s v => some (.s v)
  | .rp r xs => some (.rp r xs)
  | .ptr j o => some (.ptr j o)
  | .unk => some .unk
  | _ => none
def splice (o : List AV) (off : Nat) (xs : List AV) : List AV := o.take off ++ xs ++ o.drop (off + xs.length)
def loadP (st : St) (t : Ty) (i off : Nat) : Option (AV × St) :=
  match objAt st i with
  | none => none
  | some o =>
    bif t.isAgg then
      match plainL (lcut o off t.size) with
      | some ys => bif Nat.ble (off + t.size) o.length then some (.agg ys, bif anyFull (lcut o off t.size) then setObj st i (splice o off ys) else st) else none
      | none => none
    else match lget o off with
      | some x => match readCell x i off with
        | some v => some (v, st)
        | none => none
      | none => none
def ofCells (t : Ty) (xs : List AV) : Option AV :=
  bif t.isAgg then (bif Nat.ble t.size xs.length then some (.agg (xs.take t.size)) else none) else lget xs 0
def loadV (st : St) (t : Ty) (a : AV) : Option (AV × St) :=
  match a with
  | .ptr i off => loadP st t i off
  | .rp _ xs => match ofCells t xs with
    | some v => some (v, st)
    | none => none
  | .ep h i off => match homeGet st h with
    | .sl z xs _ => match lget xs i with
      | some x => match ofCells t (x.cells.drop off) with
        | some v => some (v, st)
        | none => none
      | none => none
    | _ => none
  | _ => none
def killCells (i off : Nat) : Nat → Fr → Fr
  | 0, fr => fr
  | n + 1, fr => killCells i (off + 1) n (killCell i off fr)
def ownerIn : List AV → Bool
  | [] => false
  | x :: xs => x.owner || ownerIn xs
/-- what may lie in an object's cell -/
def AV.cellOk : AV → Bool
  | .s _ | .ptr _ _ | .unk | .sl _ _ .imm | .sl _ _ .full | .rp false _ => true
  | _ => false
def allCellOk : List AV → Bool
  | [] => true
  | x :: xs => x.cellOk && allCellOk xs
def AV.isUnk : AV → Bool
  | .unk => true
  | _ => false
def storeP (st : St) (t : Ty) (i off : Nat) (v : AV) : Option St :=
  match objAt st i with
  | none => none
  | some o =>
    bif Nat.beq v.cells.length t.size && Nat.ble (off + t.size) o.length && !v.isUnk && allCellOk v.cells then
      some (setObj (bif ownerIn (lcut o off t.size) then { st with fr := killCells i off t.size st.fr } else st) i (splice o off v.cells))
    else none
def sameCell (h : Home) (i off : Nat) : Bool :=
  match h with
  | .cell b c => Nat.beq b i && Nat.beq c off
  | _ => false
/-- an element of the slice at a home is written -/
def storeE (st : St) (t : Ty) (h : Home) (i off : Nat) (v : AV) : Option St :=
  match homeGet st h, v.data with
  | .sl z xs .full, some y => match lget xs i with
    | some (.agg es) => bif Nat.beq y.cells.length t.size && Nat.ble (off + t.size) es.length then some (homePut st h (.sl z (lset xs i (.agg (splice es off y.cells))) .full)) else none
    | some (.s _) => match y with
      | .s c => bif Nat.beq t.size 1 && Nat.beq off 0 then some (homePut st h (.sl z (lset xs i (.s c)) .full)) else none
      | _ => none
    | _ => none
  | _, _ => none
/-- a new block is written whole -/
def storeN (st : St) (t : Ty) (a : Operand) (o : List AV) (v : AV) : Option St :=
  match a with
  | .tmp b => bif Nat.beq v.cells.length t.size && Nat.beq o.length t.size && !v.isUnk && allCellOk v.cells then some { st with fr := (b, .nb v.cells) :: st.fr } else none
  | _ => none
/-- a slice in a cell is cut short -/
def storeS (A : Ar) (st : St) (h : Home) (z lo len i off : Nat) : Option St :=
  match homeGet st h with
  | .sl z xs .full => bif Nat.beq lo 0 && A.nle len xs.length then some { homePut st h (.sl z (xs.take len) .full) with fr := killCell i off st.fr } else none
  | _ => none
def storeG (A : Ar) (st : St) (t : Ty) (a : Operand) (x : Operand) : Option St :=
  match valueV A st x with
  | some (v, st) => match opd st a with
    | .ptr i off => storeP st t i off v
    | .nb o => storeN st t a o v
    | .ep h i off => storeE st t h i off v
    | _ => none
  | none => none
def storeV (A : Ar) (st : St) (t : Ty) (a : Operand) (x : Operand) : Option St :=
  match opd st a, opd st x with
  | .ptr i off, .al z h lo len => bif sameCell h i off && Nat.beq t.size 1 then storeS A st h z lo len i off else storeG A st t a x
  | _, _ => storeG A st t a x

def fillParts (ty : Ty) : List AV → List (Nat × AV) → Option (List AV)
  | cs, [] => some cs
  | cs, (k, v) :: rest => match lget ty.offs k with
    | some (some (off, sz)) => bif Nat.beq v.cells.length sz && Nat.ble (off + v.cells.length) cs.length && !v.isUnk && allCellOk v.cells then fillParts ty (splice cs off v.cells) rest else none
    | _ => none
/-- operands' values in their order -/
def valuesV (A : Ar) (st : St) : List (Nat × Operand) → Option (List (Nat × AV) × St)
  | [] => some ([], st)
  | (k, x) :: rest => match valueV A st x with
    | some (v, st) => match valuesV A st rest with
      | some (vs, st) => some ((k, v) :: vs, st)
      | none => none
    | none => none
/-- the elements that are given are put in their places -/
def setParts (z : Nat) : List AV → List (Nat × AV) → Option (List AV)
  | xs, [] => some xs
  | xs, (k, v) :: ps => match v.data with
    | some y => bif Nat.blt k xs.length && Nat.beq y.cells.length z && !v.isUnk then setParts z (lset xs k y) ps else none
    | none => none
def zeroOf (t : Ty) : AV := bif t.isAgg then .agg t.zero else (match t.zero with | z :: _ => z | [] => .unk)

/-! ### Strings and bytes -/
def bytesOf : List AV → Option (List UInt8)
  | [] => some []
  | .s (.int .u8 n) :: l => match bytesOf l with
    | some bs => some (UInt8.ofNat n.toNat :: bs)
    | none => none
  | _ => none
def byteAVs (l : List UInt8) : List AV := l.map fun b => .s (.int .u8 b.toNat)
def ofBytes (s : ByteArray) : List AV := byteAVs s.data.toList

def convV (A : Ar) (a b : Ty) (ea eb : Option Ty) (x : AV) (xs : Option (Nat × List AV)) : Option AV :=
  match b.k, x with
  | .int k, .s (.int _ n) => some (.s (.int k (A.wr k n)))
  | .str, .s (.string s) => some (.s (.string s))
  | .slice, .s (.string s) => match eb with
    | some e => bif e.isByte then some (.sl 1 (ofBytes s) .imm) else none
    | none => none
  | .str, _ => match ea, xs with
    | some e, some (_, l) => bif e.isByte && a.isSlice then (match bytesOf l with | some bs => some (.s (.string ⟨bs.toArray⟩)) | none => none) else none
    | _, _ => none
  | _, _ => none

def sliceBds (A : Ar) (len : Nat) (lo hi : Option AV) : Option (Nat × Nat) :=
  match (match hi with | none => some len | some h => natOf h), (match lo with | none => some 0 | some l => natOf l) with
  | some h, some l => bif A.nle h len && A.nle l h then some (l, h) else none
  | _, _ => none
def sliceS (A : Ar) (x : AV) (lo hi : Option AV) : Option AV :=
  match x with
  | .s (.string s) => match sliceBds A (A.siz s) lo hi with
    | some (l, h) => some (.s (.string (A.cut s l h)))
    | none => none
  | _ => none
def sliceV (A : Ar) (st : St) (sz : Nat) (x : Operand) (lo hi : Option AV) : Option AV :=
  match opd st x with
  | .sl z xs .imm => match sliceBds A xs.length lo hi with
    | some (l, h) => bif Nat.beq z sz then some (.sl z (lcut xs l (h - l)) .imm) else none
    | none => none
  | .sl z xs .ro => match sliceBds A xs.length lo hi with
    | some (l, h) => bif Nat.beq z sz then some (.sl z (lcut xs l (h - l)) .ro) else none
    | none => none
  | .sl z xs .full => match x with
    | .tmp t => match sliceBds A xs.length lo hi with
      | some (l, h) => bif Nat.beq z sz then some (.al z (.slot t) l (h - l)) else none
      | none => none
    | _ => none
  | .al z h l0 len => match sliceBds A len lo hi with
    | some (l, hh) => bif Nat.beq z sz then some (.al z h (l0 + l) (hh - l)) else none
    | none => none
  | _ => none
def indexV (A : Ar) (st : St) (sz : Nat) (x : Operand) (i : AV) : Option AV :=
  match natOf i with
  | none => none
  | some i => match opd st x with
    | .sl z xs .full => match x with
      | .tmp t => bif Nat.beq z sz && A.nle (i + 1) xs.length then some (.ep (.slot t) i 0) else none
      | _ => none
    | .sl z xs p => match lget xs i with
      | some e => bif Nat.beq z sz then some (.rp (match p with | .ro => true | _ => false) e.cells) else none
      | none => none
    | .al z h lo len => bif Nat.beq z sz && A.nle (i + 1) len then some (.ep h (lo + i) 0) else none
    | _ => none

def dropSrc (st : St) (x : Operand) : St :=
  match x with
  | .tmp t => match fget st.fr t with
    | .sl _ _ .full => { st with fr := (t, .gone) :: st.fr }
    | _ => st
  | _ => st
def srcOf (A : Ar) (st : St) (arg : Operand) (u : Ty) : Option (Nat × List AV) :=
  match opd st arg with
  | .s (.string s) => bif u.isStr then some (1, ofBytes s) else none
  | v => bif u.isSlice then elems A st v else none
/-- append: the base goes over into the result -/
def appendV (A : Ar) (st : St) (e : Ty) (base arg : Operand) (u : Ty) : Option (AV × St) :=
  match srcOf A st arg u with
  | none => none
  | some (y, ys) => match opd (dropSrc st arg) base with
    | .sl z xs .full => bif Nat.beq z e.size && Nat.beq y e.size && A.fit (xs.length + ys.length) e.bytes && Nat.ble 1 e.bytes then some (.sl z (xs ++ ys) .full, dropSrc (dropSrc st arg) base) else none
    | .al z h lo len => match homeGet (dropSrc st arg) h with
      | .sl z xs .full => bif Nat.beq z e.size && Nat.beq y e.size && Nat.beq lo 0 && A.neq len xs.length && A.fit (xs.length + ys.length) e.bytes && Nat.ble 1 e.bytes then some (.sl z (xs ++ ys) .full, homePut (dropSrc st arg) h .gone) else none
      | _ => none
    | _ => none

/-! ### One operation that is no call of a function -/
def dput (st : St) (dst : Option Nat) (v : AV) : St :=
  match dst with
  | some d => bif Nat.blt d st.n then { st with fr := fset st.fr d (bif v.atSlot d then .unk else v) } else st
  | none => st
def dputO (dst : Option Nat) (r : Option (AV × St)) : Option St :=
  match r with
  | some (v, st) => some (dput st dst v)
  | none => none
def withSt (st : St) (r : Option AV) : Option (AV × St) :=
  match r with
  | some v => some (v, st)
  | none => none

def builtinV (env : Env) (st : St) (b : Builtin) (args : List Operand) (ts : List Nat) : Option (AV × St) :=
  match b, args with
  | .len, [x] => match ts with
    | [t] => match env.ty t with
      | some ty => match lenOf env.A ty (opd st x) with
        | some n => some (.s (.int .i64 (.ofNat n)), st)
        | none => none
      | none => none
    | _ => none
  | .append, [x, y] => match ts with
    | [t, u] => match env.elemOf t, env.ty u with
      | some e, some uy => appendV env.A st e x y uy
      | _, _ => none
    | _ => none
  | .min, [x, y] => match opd st x, opd st y with
    | .s (.int j a), .s (.int k b) => bif kindEq j k then some (.s (.int k (bif env.A.lt b a then b else a)), st) else none
    | _, _ => none
  | .max, [x, y] => match opd st x, opd st y with
    | .s (.int j a), .s (.int k b) => bif kindEq j k then some (.s (.int k (bif env.A.lt a b then b else a)), st) else none
    | _, _ => none
  | .clear, [x] => match opd st x, ts with
    | .al z h lo len, [t] => match homeGet st h, env.elemOf t with
      | .sl z xs .full, some e => match (zeroOf e).data with
          | some y => bif env.A.nle (lo + len) xs.length && Nat.beq y.cells.length z then some (.unk, homePut st h (.sl z (xs.take lo ++ List.replicate len y ++ xs.drop (lo + len)) .full)) else none
          | none => none
      | _, _ => none
    | _, _ => none
  | _, _ => none

def optOpd (st : St) : Option Operand → Option AV
  | none => none
  | some x => some (opd st x)
def opdL (st : St) : List Operand → List AV
  | [] => []
  | x :: xs => opd st x :: opdL st xs
def bldOk (t n : Nat) : Bool := match bldT with
  | some T => bif Nat.beq n 2 then Nat.beq t T else true
  | none => true
def stepV (env : Env) (st : St) (op : Op) : Option (AV × St) :=
  match op with
  | .move x => copyV st x
  | .pick c a b => match boolOf (opd st c) with
    | some true => copyV st a
    | some false => copyV st b
    | none => none
  | .alloc t => match env.ty t with
    | some ty => bif bldOk t ty.zero.length then some (.nb ty.zero, st) else none
    | none => none
  | .box t x => match env.ty t with
    | some ty => match valueV env.A st x with
      | some (v, st) => bif Nat.beq v.cells.length ty.size then (bif !v.isUnk && allCellOk v.cells && bldOk t v.cells.length then some (.ptr st.O.length 0, { st with O := st.O ++ [v.cells] }) else none) else none
      | none => none
    | none => none
  | .build t ps => match env.ty t with
    | some ty => match valuesV env.A st ps.toList with
      | some (vs, st) => bif ty.isAgg then (match fillParts ty ty.zero vs with
        | some cs => some (.agg cs, st)
        | none => none) else none
      | none => none
    | none => none
  | .buildSlice t n ps => match env.elemOf t with
    | some e => match valuesV env.A st ps.toList with
      | some (vs, st) => match (zeroOf e).data with
        | some y => match setParts e.size (List.replicate n y) vs with
          | some xs => bif Nat.ble (n * e.size) 16777216 then some (.sl e.size xs .full, st) else none
          | none => none
        | none => none
      | none => none
    | none => none
  | .load t a => match env.ty t with
    | some ty => loadV st ty (opd st a)
    | none => none
  | .nilCheck x => match opd st x with
    | .ptr i off => some (.ptr i off, st)
    | .rp r xs => some (.rp r xs, st)
    | .ep h i off => some (.ep h i off, st)
    | _ => none
  | .binOp op t x y _ => withSt st (binO env.A env.ty op t x y (opd st x) (opd st y))
  | .unOp op _ x => match op, opd st x with
    | .not, .s (.bool b) => some (.s (.bool (!b)), st)
    | .neg, .s (.int k n) => some (.s (.int k (env.A.sub k 0 n)), st)
    | _, _ => none
  | .convert a b x => match env.ty a, env.ty b with
    | some ta, some tb => withSt st (convV env.A ta tb (env.ty ta.elem) (env.ty tb.elem) (opd st x) (elems env.A st (opd st x)))
    | _, _ => none
  | .makeInterface t x => match opd st x, env.ty t with
    | .s v, some ty => bif ty.plainK then some (.s (.iface t v), st) else none
    | _, _ => none
  | .makeFunc fn first caps => match fn with
    | .func f => bif okCaps (opdL st first.toList) && okCaps (opdL st caps.toList) then some (.fn f (opdL st first.toList) (opdL st caps.toList), st) else none
    | _ => none
  | .makeSlice t l c => match env.elemOf t with
    | some e => match natOf (opd st l), natOf (opd st c), (zeroOf e).data with
      | some n, some m, some y => bif env.A.neq n m && env.A.fit n e.bytes && Nat.beq y.cells.length e.size && Nat.ble 1 e.bytes then some (.sl e.size (List.replicate n y) .full, st) else none
      | _, _, _ => none
    | none => none
  | .slice t x lo hi mx => match mx with
    | none => match env.ty t with
      | some ty => bif ty.isStr then withSt st (sliceS env.A (opd st x) (optOpd st lo) (optOpd st hi)) else
        (match env.elemOf t with
          | some e => withSt st (sliceV env.A st e.size x (optOpd st lo) (optOpd st hi))
          | none => none)
      | none => none
    | some _ => none
  | .fieldAddr t x f => match env.ty t with
    | some ty => match lget ty.offs f, opd st x with
      | some (some (off, _)), .ptr i o => some (.ptr i (o + off), st)
      | some (some (off, _)), .rp r xs => some (.rp r (xs.drop off), st)
      | some (some (off, _)), .ep h i o => some (.ep h i (o + off), st)
      | _, _ => none
    | none => none
  | .indexAddr t x i => match env.elemOf t with
    | some e => withSt st (indexV env.A st e.size x (opd st i))
    | none => none
  | .index t x i => match opd st x, natOf (opd st i), env.ty t with
    | .s (.string s), some j, some ty => match env.A.at_ s j with
      | some b => bif ty.isStr then some (.s (.int .u8 b), st) else none
      | none => none
    | _, _, _ => none
  | .extract x i => match x with
    | .tmp t => match fget st.fr t with
      | .tup xs => match lget xs i with
        | some v => bif v.isAl then none else some (v, bif v.keepable then st else { st with fr := (t, .tup (lset xs i .gone)) :: st.fr })
        | none => none
      | _ => none
    | _ => none
  | .call c => match c.callee with
    | .builtin b => builtinV env st b c.args.toList c.argTypes.toList
    | _ => none
  | _ => none

def assignV (A : Ar) (st : St) (d : Nat) (x : Operand) : Option St :=
  match takeV st x with
  | some (.al z (.slot t) lo len, st) =>
    bif Nat.beq t d then (match fget st.fr d with
      | .sl z xs .full => bif Nat.beq lo 0 && A.nle len xs.length && Nat.blt d st.n then some { st with fr := (d, .sl z (xs.take len) .full) :: killSlot d st.fr } else none
      | _ => none)
    else some (dput st (some d) (.al z (.slot t) lo len))
  | r => dputO (some d) r

def stepOp (env : Env) (st : St) (o : Oper) : Option St :=
  match o.op with
  | .assign x => match o.dst with
    | some d => match isNilConst x with
      | true => match env.elemOf o.type with
        | some e => some (dput st (some d) (.sl e.size [] .full))
        | none => none
      | false => assignV env.A st d x
    | none => none
  | .store t a x => match env.ty t with
    | some ty => match storeV env.A st ty a x with
      | some st => some (dput st o.dst .unk)
      | none => none
    | none => none
  | op => dputO o.dst (stepV env st op)

def isCall : Op → Option (Callee × List Operand)
  | .call c => match c.callee with
    | .builtin _ => none
    | ce => some (ce, c.args.toList)
  | _ => none

def guardOf (ops : Array Oper) (st : St) (o : Oper) : Option Bool :=
  match o.guard with
  | none => some true
  | some (j, want) => match lget ops.toList j with
    | some p => match p.dst with
      | some t => match fget st.fr t with
        | .s (.bool b) => some (match want with | true => b | false => !b)
        | .tup [] => some false
        | _ => none
      | none => none
    | none => none

/-! ### Calls -/
def hasN (t : Nat) : List Nat → Bool
  | [] => false
  | u :: l => Nat.beq u t || hasN t l
/-- the objects that a value leads to at once -/
def AV.ptrs : AV → List Nat
  | .ptr i _ => [i]
  | .agg xs => ptrsL xs
  | .tup xs => ptrsL xs
  | .fn _ a b => ptrsL a ++ ptrsL b
  | _ => []
where ptrsL : List AV → List Nat
  | [] => []
  | x :: xs => x.ptrs ++ ptrsL xs
/-- all objects that are led to, in the order of their being met -/
def reachF (O : Seg) : Nat → List Nat → List Nat → Option (List Nat)
  | _, [], acc => some acc
  | 0, _ :: _, _ => none
  | n + 1, i :: todo, acc => bif hasN i acc then reachF O n todo acc else match lget O i with
    | some o => reachF O n (AV.ptrs.ptrsL o ++ todo) (acc ++ [i])
    | none => none
def posN (i : Nat) : List Nat → Option Nat
  | [] => none
  | j :: l => bif Nat.beq j i then some 0 else (match posN i l with | some k => some (k + 1) | none => none)
/-- with the objects numbered by their place in a list -/
def AV.ren (m : List Nat) : AV → Option AV
  | .ptr i off => match posN i m with
    | some j => some (.ptr j off)
    | none => none
  | .agg xs => match renL m xs with
    | some ys => some (.agg ys)
    | none => none
  | .fn f a b => match renL m a, renL m b with
    | some a, some b => some (.fn f a b)
    | _, _ => none
  | .s v => some (.s v)
  | .sl z xs p => some (.sl z xs p)
  | .rp r xs => some (.rp r xs)
  | .gone => some .gone
  | .unk => some .unk
  | _ => none
where renL (m : List Nat) : List AV → Option (List AV)
  | [] => some []
  | x :: xs => match x.ren m, renL m xs with
    | some y, some ys => some (y :: ys)
    | _, _ => none
def renObjs (m : List Nat) (O : Seg) : List Nat → Option Seg
  | [] => some []
  | i :: l => match lget O i with
    | some o => match AV.ren.renL m o, renObjs m O l with
      | some p, some ps => some (p :: ps)
      | _, _ => none
    | none => none
/-- and back; new objects have the numbers from base on -/
def back (m : List Nat) (base j : Nat) : Nat := match lget m j with
  | some i => i
  | none => base + (j - m.length)
def AV.renB (m : List Nat) (base : Nat) : AV → AV
  | .ptr j off => .ptr (back m base j) off
  | .agg xs => .agg (renBL m base xs)
  | .tup xs => .tup (renBL m base xs)
  | .fn f a b => .fn f (renBL m base a) (renBL m base b)
  | x => x
where renBL (m : List Nat) (base : Nat) : List AV → List AV
  | [] => []
  | x :: xs => x.renB m base :: renBL m base xs
def putBack (m : List Nat) (base : Nat) : List Nat → Seg → Seg → Seg
  | [], O2, O => O ++ O2.map (AV.renB.renBL m base)
  | i :: l, o :: O2, O => putBack m base l O2 (lset O i (AV.renB.renBL m base o))
  | _ :: _, [], O => O
/-- what is lent to a call that writes nothing -/
def mapO (f : AV → Option AV) : List AV → Option (List AV)
  | [] => some []
  | x :: xs => match f x, mapO f xs with
    | some y, some ys => some (y :: ys)
    | _, _ => none
def AV.view0 : AV → Option AV
  | .s v => some (.s v)
  | .sl z xs .full => some (.sl z xs .ro)
  | .sl z xs p => some (.sl z xs p)
  | .rp r xs => some (.rp r xs)
  | .unk => some .unk
  | _ => none
def AV.view (O : Seg) : Nat → AV → Option AV
  | 0, x => x.view0
  | n + 1, x => match x with
    | .ptr i off => match lget O i with
      | some o => match mapO (AV.view O n) o with
        | some ys => some (.rp true (ys.drop off))
        | none => none
      | none => none
    | x => x.view0
def AV.viewA (O : Seg) : AV → Option AV
  | .sl z xs p => some (.sl z xs p)
  | .agg xs => match mapO (AV.view O 8) xs with
    | some ys => some (.agg ys)
    | none => none
  | .fn f a b => match mapO (AV.view O 8) a, mapO (AV.view O 8) b with
    | some a, some b => some (.fn f a b)
    | _, _ => none
  | x => x.view O 8
def viewArgs (O : Seg) : List AV → Option (List AV) := mapO (AV.viewA O)
/-- an argument: the value handed over, and the state behind it. mode 0: a slice that belongs to somebody is lent; 1: it goes over; 2: it is frozen. -/
def argV (A : Ar) (st : St) (x : Operand) (mode : Nat) : Option (AV × St) :=
  match takeV st x with
  | some (.al z h lo len, st) =>
    match mode with
    | 0 => some (.al z h lo len, st)
    | 1 => (match homeGet st h with
      | .sl z xs .full => bif Nat.beq lo 0 && A.neq len xs.length then some (.sl z xs .full, homePut st h .gone) else none
      | _ => none)
    | _ => match freezeAt st h with
      | some (z, xs, st) => bif A.nle (lo + len) xs.length then some (.sl z (lcut xs lo len) .imm, st) else none
      | none => none
  | some (.agg xs, st) => match plainL xs with
    | some ys => some (.agg ys, st)
    | none => none
  | some (.s v, st) => some (.s v, st)
  | some (.sl z xs p, st) => match p, mode with
    | .full, 2 => some (.sl z xs .imm, st)
    | p, _ => some (.sl z xs p, st)
  | some (.rp r xs, st) => some (.rp r xs, st)
  | some (.ptr i off, st) => some (.ptr i off, st)
  | some (.fn f a b, st) => some (.fn f a b, st)
  | _ => none
def modeOf : List Nat → Nat
  | c :: _ => c
  | [] => 0
def argsV (A : Ar) (st : St) : List Operand → List Nat → Option (List AV × St)
  | [], _ => some ([], st)
  | x :: xs, cs => match argV A st x (modeOf cs) with
    | some (v, st) => match argsV A st xs cs.tail with
      | some (vs, st) => some (v :: vs, st)
      | none => none
    | none => none
/-- what is lent, as it lies there when all is ready -/
def lendV (A : Ar) (st : St) : AV → Option AV
  | .al z h lo len => match homeGet st h with
    | .sl _ xs .imm => bif A.nle (lo + len) xs.length then some (.sl z (lcut xs lo len) .imm) else none
    | .sl _ xs _ => bif A.nle (lo + len) xs.length then some (.sl z (lcut xs lo len) .ro) else none
    | _ => none
  | v => some v
def lendL (A : Ar) (st : St) : List AV → Option (List AV)
  | [] => some []
  | x :: xs => match lendV A st x, lendL A st xs with
    | some y, some ys => some (y :: ys)
    | _, _ => none
/-- the objects from whose cells slices are lent -/
def lentOf : List AV → List Nat
  | [] => []
  | .al _ (.cell i _) _ _ :: xs => i :: lentOf xs
  | _ :: xs => lentOf xs
def apartN (m : List Nat) : List Nat → Bool
  | [] => true
  | i :: l => !(hasN i m) && apartN m l
def AV.atObj (m : List Nat) : AV → Bool
  | .al _ (.cell i _) _ _ | .ep (.cell i _) _ _ => hasN i m
  | _ => false
/-- aliases of what a call may turn are forgotten -/
def dropAl (m : List Nat) : Fr → Fr
  | [] => []
  | (u, v) :: fr => (u, bif v.atObj m then .unk else v) :: dropAl m fr
def calleeOf (st : St) (c : Callee) : Option (Nat × List AV × List AV) :=
  match c with
  | .value f => match opd st f with
    | .fn f a b => some (f, a, b)
    | _ => none
  | _ => none

def resV1 (A : Ar) (st : St) (v : AV) : Option (AV × St) :=
  match v with
  | .al z (.slot t) lo len => match fget st.fr t with
    | .sl z xs .full => bif A.nle (lo + len) xs.length then
        (bif Nat.beq lo 0 then some (.sl z (xs.take len) .full, { st with fr := (t, .gone) :: st.fr }) else some (.sl z (lcut xs lo len) .imm, { st with fr := (t, .sl z xs .imm) :: st.fr })) else none
    | .sl z xs .imm => bif A.nle (lo + len) xs.length then some (.sl z (lcut xs lo len) .imm, st) else none
    | _ => none
  | .al z h lo len => match freezeAt st h with
    | some (z, xs, st) => bif A.nle (lo + len) xs.length then some (.sl z (lcut xs lo len) .imm, st) else none
    | none => none
  | .s v => some (.s v, st)
  | .sl z xs .imm => some (.sl z xs .imm, st)
  | .rp false xs => some (.rp false xs, st)
  | .ptr i off => some (.ptr i off, st)
  | .unk => some (.unk, st)
  | _ => none
def resOne (env : Env) (st : St) (r : ResultVar) : Option (AV × St) :=
  match r with
  | .tmp t => match fget st.fr t with
    | .sl z xs .full => some (.sl z xs .full, { st with fr := (t, .gone) :: st.fr })
    | .agg xs => match plainL xs with
      | some ys => some (.agg ys, { st with fr := (t, .gone) :: st.fr })
      | none => none
    | v => resV1 env.A st v
  | .cell t T => match env.ty T, fget st.fr t with
    | some ty, .ptr i off => bif ty.isAgg then loadP st ty i off else none
    | _, _ => none
def resAll (env : Env) (st : St) : List ResultVar → Option (List AV × St)
  | [] => some ([], st)
  | r :: rs => match resOne env st r with
    | some (v, st) => match resAll env st rs with
      | some (vs, st) => some (v :: vs, st)
      | none => none
    | none => none
def tupOf : List AV → AV
  | [v] => v
  | vs => .tup vs
def ranN : Nat → Nat → List Nat
  | 0, _ => []
  | n + 1, i => i :: ranN n (i + 1)
def AV.outOk : AV → Bool
  | .s _ | .sl _ _ .imm | .sl _ _ .full | .rp false _ | .ptr _ _ | .unk => true
  | .agg xs => allCellOk xs
  | _ => false
def allOut : List AV → Bool
  | [] => true
  | x :: xs => x.outOk && allOut xs
def allPtrs : Seg → List Nat
  | [] => []
  | o :: O => AV.ptrs.ptrsL o ++ allPtrs O
def allSegOk : Seg → Bool
  | [] => true
  | o :: O => allCellOk o && allSegOk O
/-- the frame ends: its own objects are gone, but those that something led out to -/
def outOf (vs : List AV) (st : St) : Option (List AV × Seg) :=
  bif allOut vs && Nat.ble st.k st.O.length then (match reachF st.O 400 (allPtrs (st.O.take st.k) ++ AV.ptrs.ptrsL vs) (ranN st.k 0) with
    | some acc => match AV.ren.renL acc vs, renObjs acc st.O acc with
      | some vs, some O => bif allSegOk O then some (vs, O) else none
      | _, _ => none
    | none => none) else none

/-- a call: what is asked, and how the state is behind it -/
def callOf (env : Env) (st : St) (ce : Callee) (f : Nat) (args : List Operand) : Option (List Nat × List AV × Seg × St) :=
  match argsV env.A st args (env.cons f) with
  | none => none
  | some (us, st0) => match lendL env.A st0 us, calleeOf st0 ce with
    | some vs, some (g, first, caps) => bif Nat.beq g f && (okCaps first && okCaps caps) then
      (bif env.pure f then (match viewArgs st0.O (first ++ vs ++ caps) with
        | some as => some ([], as, [], st0)
        | none => none)
      else (match reachF st0.O 200 (AV.ptrs.ptrsL (first ++ vs ++ caps)) [] with
        | some m => bif apartN m (lentOf us) then (match AV.ren.renL m (first ++ vs ++ caps), renObjs m st0.O m with
          | some as, some O => some (m, as, O, { st0 with fr := dropAl m st0.fr })
          | _, _ => none) else none
        | none => none)) else none
    | _, _ => none
def afterCall (m : List Nat) (st0 : St) (v : AV) (O2 : Seg) : Option (AV × St) :=
  bif Nat.ble m.length O2.length then some (v.renB m st0.O.length, { st0 with O := putBack m st0.O.length m O2 st0.O }) else none

def regionProg (env : Env) (fn : Nat) (ops : Array Oper) : List Oper → St → (St → Prog) → Prog
  | [], st, k => k st
  | o :: rest, st, k =>
    match guardOf ops st o with
    | none => .done none
    | some false => regionProg env fn ops rest (dput st o.dst (.tup [])) k
    | some true =>
      match isCall o.op with
      | none => match stepOp env st o with
        | some st => regionProg env fn ops rest st k
        | none => .done none
      | some (ce, args) => match calleeOf st ce with
        | none => .done none
        | some (f, _, _) => match callOf env st ce f args with
          | none => .done none
          | some (m, as, O, st0) =>
            .ask (.call f as O) fun
              | .ret v O2 => match afterCall m st0 v O2 with
                | some (v, st2) => regionProg env fn ops rest (dput st2 o.dst v) k
                | none => .done none
              | _ => .done none

/-! ### The end of a region: what isn't live is forgotten -/
def regNew (st : St) : List Nat → St
  | [] => st
  | t :: ts => match fget st.fr t with
    | .nb xs => regNew (dput { st with fr := (t, .gone) :: st.fr, O := st.O ++ [xs] } (some t) (.ptr st.O.length 0)) ts
    | _ => regNew st ts
def keepV (A : Ar) (live : List Nat) (st : St) (v : AV) : AV :=
  match v with
  | .al z (.slot t) lo len => bif hasN t live then v else (match fget st.fr t with
    | .sl z xs .full => bif A.nle (lo + len) xs.length then .sl z (lcut xs lo len) .imm else .unk
    | .sl z xs .imm => bif A.nle (lo + len) xs.length then .sl z (lcut xs lo len) .imm else .unk
    | _ => .unk)
  | .ep (.slot t) .. => bif hasN t live then v else .unk
  | v => v
def keepAll (A : Ar) (live : List Nat) (st : St) : List Nat → Fr
  | [] => []
  | t :: l => (t, keepV A live st (fget st.fr t)) :: keepAll A live st l
def refObj (i : Nat) : AV → Bool
  | .ptr j _ => Nat.beq i j
  | .agg xs => refObjL i xs
  | .tup xs => refObjL i xs
  | .nb xs => refObjL i xs
  | .fn _ a b => refObjL i a || refObjL i b
  | .al _ (.cell j _) _ _ | .ep (.cell j _) _ _ => Nat.beq i j
  | _ => false
where refObjL (i : Nat) : List AV → Bool
  | [] => false
  | x :: xs => refObj i x || refObjL i xs
def refFr (i : Nat) : Fr → Bool
  | [] => false
  | (_, v) :: fr => refObj i v || refFr i fr
def refSeg (i : Nat) : Seg → Bool
  | [] => false
  | o :: l => refObj.refObjL i o || refSeg i l
/-- objects of the frame's own that nothing leads to any more, from the last one on -/
def popDead (k : Nat) (fr : Fr) : Nat → Seg → Seg
  | 0, O => O
  | n + 1, O => bif Nat.ble k n && (Nat.beq O.length (n + 1) && !(refFr n fr || refSeg n O.dropLast)) then popDead k fr n O.dropLast else O
/-- the slots of a list that hold aliases of what lies in slot t -/
def countAl (t : Nat) (st : St) : List Nat → Nat
  | [] => 0
  | u :: us => bif (fget st.fr u).atSlot t then countAl t st us + 1 else countAl t st us
/-- what lies in a slot that dies goes over to the slot that holds its only alias -/
def adopt1 (A : Ar) (live : List Nat) (st : St) (u : Nat) : St :=
  match fget st.fr u with
  | .al _ (.slot t) lo len => bif hasN t live then st else (match fget st.fr t with
    | .sl z xs .full => bif Nat.beq lo 0 && A.nle len xs.length && Nat.beq (countAl t st live) 1 then dput { st with fr := (t, .gone) :: st.fr } (some u) (.sl z (xs.take len) .full) else st
    | _ => st)
  | _ => st
def adopt (A : Ar) (live : List Nat) : List Nat → St → St
  | [], st => st
  | u :: us, st => adopt A live us (adopt1 A live st u)
def endRegion0 (A : Ar) (live : List Nat) (st : St) : St :=
  { n := st.n, k := st.k, fr := keepAll A live (regNew st live) live, O := popDead st.k (keepAll A live (regNew st live) live) (regNew st live).O.length (regNew st live).O }

def endRegion (A : Ar) (live : List Nat) (st : St) : St := endRegion0 A live (adopt A live live st)

def initFr : Nat → List AV → Fr
  | _, [] => []
  | n, v :: vs => (n, v) :: initFr (n + 1) vs

/-- a region, in the order of the text; calls by E -/
def evr (env : Env) (E : Task → Option Res) (ops : Array Oper) : List Oper → St → Option St
  | [], st => some st
  | o :: rest, st =>
    match guardOf ops st o with
    | none => none
    | some true =>
        (match isCall o.op with
        | none => match stepOp env st o with
          | some st => evr env E ops rest st
          | none => none
        | some (ce, args) => match calleeOf st ce with
          | none => none
          | some (f, _, _) => match callOf env st ce f args with
            | none => none
            | some (m, as, O, st0) => match E (.call f as O) with
              | some (.ret v O2) => match afterCall m st0 v O2 with
                | some (v, st2) => evr env E ops rest (dput st2 o.dst v)
                | none => none
              | _ => none)
    | some false => evr env E ops rest (dput st o.dst (.tup []))

end Go.Va
