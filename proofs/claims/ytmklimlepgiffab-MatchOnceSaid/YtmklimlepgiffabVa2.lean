/- The verified abstract interpreter, a part of it: no statement of its own. -/
import Derived.Test.YtmklimlepgiffabVa1
set_option linter.unusedVariables false
set_option linter.unusedSimpArgs false
set_option linter.unusedVariables false
namespace Go.Va
/-- aliases that are forgotten -/
inductive Kil where
  | slot (t : Nat)
  | cell (i off : Nat)
  | objs (m : List Nat)
def AV.hit (K : Kil) (v : AV) : Bool :=
  match K with
  | .slot t => v.atSlot t
  | .cell i off => v.atCell i off
  | .objs m => v.atObj m
def hitV (K : Kil) (v : AV) : AV := bif v.hit K then .unk else v
def killK (K : Kil) : Fr → Fr
  | [] => []
  | (u, v) :: fr => (u, hitV K v) :: killK K fr
inductive M where
  | ret
  | fail
  | rdN (k : Nat → M)
  | rdS (t : Nat) (k : AV → M)
  | own (t : Nat) (k : Bool → M)
  | rdO (i : Nat) (k : Option Obj → M)
  | rdC (i j : Nat) (k : Option AV → M)
  | rdL (k : Nat → M)
  | wrS (t : Nat) (v : AV) (m : M)
  | wrO (i : Nat) (o : Obj) (m : M)
  | wrC (i j : Nat) (v : AV) (m : M)
  | psh (os : Seg) (m : M)
  | kil (K : Kil) (m : M)
  | ask (t : Task) (k : Res → M)
inductive Eff where
  | wrS (t : Nat) (v : AV)
  | wrO (i : Nat) (o : Obj)
  | wrC (i j : Nat) (v : AV)
  | psh (os : Seg)
  | kil (K : Kil)
def cellAt (st : St) (i j : Nat) : Option AV := match objAt st i with
  | some o => lget o j
  | none => none
def Eff.app (e : Eff) (st : St) : St := match e with
  | .wrS t v => { st with fr := (t, v) :: st.fr }
  | .wrO i o => setObj st i o
  | .wrC i j v => homePut st (.cell i j) v
  | .psh os => { st with O := st.O ++ os }
  | .kil K => { st with fr := killK K st.fr }
/-- what comes of a text -/
def ev (E : Task → Option Res) : M → St → Option St
  | .ret, st => some st
  | .fail, _ => none
  | .rdN k, st => ev E (k st.n) st
  | .rdS t k, st => ev E (k (fget st.fr t)) st
  | .own t k, st => ev E (k (fget st.fr t).owner) st
  | .rdO i k, st => ev E (k (objAt st i)) st
  | .rdC i j k, st => ev E (k (cellAt st i j)) st
  | .rdL k, st => ev E (k st.O.length) st
  | .wrS t v m, st => ev E m ((Eff.wrS t v).app st)
  | .wrO i o m, st => ev E m ((Eff.wrO i o).app st)
  | .wrC i j v m, st => ev E m ((Eff.wrC i j v).app st)
  | .psh os m, st => ev E m ((Eff.psh os).app st)
  | .kil K m, st => ev E m ((Eff.kil K).app st)
  | .ask t k, st => match E t with
    | some r => ev E (k r) st
    | none => none
/-- what was looked at, and what was done -/
structure Trc where
  rs : List Nat
  rw : List Nat
  ro : List Nat
  rc : List (Nat × Nat)
  len : Bool
  eff : List Eff
def Trc.none : Trc := ⟨[], [], [], [], false, []⟩
def withT (f : Trc → Trc) : Option (St × Trc) → Option (St × Trc)
  | some (st, T) => some (st, f T)
  | .none => .none
def run (E : Task → Option Res) : M → St → Option (St × Trc)
  | .ret, st => some (st, Trc.none)
  | .fail, _ => none
  | .rdN k, st => run E (k st.n) st
  | .rdS t k, st => withT (fun T => { T with rs := t :: T.rs }) (run E (k (fget st.fr t)) st)
  | .own t k, st => withT (fun T => { T with rw := t :: T.rw }) (run E (k (fget st.fr t).owner) st)
  | .rdO i k, st => withT (fun T => { T with ro := i :: T.ro }) (run E (k (objAt st i)) st)
  | .rdC i j k, st => withT (fun T => { T with rc := (i, j) :: T.rc }) (run E (k (cellAt st i j)) st)
  | .rdL k, st => withT (fun T => { T with len := true }) (run E (k st.O.length) st)
  | .wrS t v m, st => withT (fun T => { T with eff := .wrS t v :: T.eff }) (run E m ((Eff.wrS t v).app st))
  | .wrO i o m, st => withT (fun T => { T with ro := i :: T.ro, eff := .wrO i o :: T.eff }) (run E m ((Eff.wrO i o).app st))
  | .wrC i j v m, st => withT (fun T => { T with eff := .wrC i j v :: T.eff }) (run E m ((Eff.wrC i j v).app st))
  | .psh os m, st => withT (fun T => { T with len := true, eff := .psh os :: T.eff }) (run E m ((Eff.psh os).app st))
  | .kil K m, st => withT (fun T => { T with eff := .kil K :: T.eff }) (run E m ((Eff.kil K).app st))
  | .ask t k, st => match E t with
    | some r => run E (k r) st
    | none => none

/-! ### The operations -/
def opdM (x : Operand) (k : AV → M) : M := match x with
  | .tmp t => .rdS t k
  | .const v => k (constV v)
  | .func f => k (.fn f [] [])
  | .global _ => k .unk
def homeM (h : Home) (k : AV → M) : M := match h with
  | .slot t => .rdS t k
  | .cell i off => .rdC i off fun
    | some v => k v
    | none => k .unk
def homePutM (h : Home) (v : AV) (m : M) : M := match h with
  | .slot t => .wrS t v m
  | .cell i off => .wrC i off v m
def elemsM (A : Ar) (v : AV) (k : Option (Nat × List AV) → M) : M := match v with
  | .sl z xs _ => k (some (z, xs))
  | .al z h lo len => homeM h fun
    | .sl z xs _ => bif A.nle (lo + len) xs.length then k (some (z, lcut xs lo len)) else k none
    | _ => k none
  | _ => k none
def copyM (x : Operand) (k : AV → M) : M := match x with
  | .tmp t => .rdS t fun
    | .sl z xs .full => k (.al z (.slot t) 0 xs.length)
    | .tup xs => .wrS t .gone (k (.tup xs))
    | .agg xs => match plainL xs with
      | some ys => bif anyFull xs then .wrS t (.agg ys) (k (.agg ys)) else k (.agg ys)
      | none => .fail
    | .nb _ => .fail
    | .gone => .fail
    | .fn f a b => bif okCaps a && okCaps b then k (.fn f a b) else .fail
    | v => k v
  | x => opdM x k
def takeM (x : Operand) (k : AV → M) : M := match x with
  | .tmp t => .rdS t fun
    | .sl z xs .full => .wrS t .gone (k (.sl z xs .full))
    | .nb xs => .wrS t .gone (k (.nb xs))
    | .tup xs => .wrS t .gone (k (.tup xs))
    | .agg xs => .wrS t .gone (k (.agg xs))
    | .gone => .fail
    | .fn f a b => bif okCaps a && okCaps b then k (.fn f a b) else .fail
    | v => k v
  | x => opdM x k
def freezeM (h : Home) (k : Nat → List AV → M) : M := homeM h fun
  | .sl z xs .full => homePutM h (.sl z xs .imm) (k z xs)
  | .sl z xs .imm => k z xs
  | _ => .fail
def valueM (A : Ar) (x : Operand) (k : AV → M) : M := takeM x fun
  | .al z h lo len => freezeM h fun z xs => bif A.nle (lo + len) xs.length then k (.sl z (lcut xs lo len) .imm) else .fail
  | .sl _ _ .ro => .fail
  | .ep .. => .fail
  | v => k v
def valuesM (A : Ar) : List (Nat × Operand) → (List (Nat × AV) → M) → M
  | [], k => k []
  | (j, x) :: rest, k => valueM A x fun v => valuesM A rest fun vs => k ((j, v) :: vs)
/-- the owned slices among some cells are frozen -/
def frzM (i : Nat) : Nat → List AV → M → M
  | _, [], m => m
  | off, .sl z xs .full :: l, m => .wrC i off (.sl z xs .imm) (frzM i (off + 1) l m)
  | off, _ :: l, m => frzM i (off + 1) l m
def loadM (t : Ty) (a : AV) (k : AV → M) : M := match a with
  | .ptr i off => bif t.isAgg then .rdO i (fun
      | none => .fail
      | some o => match plainL (lcut o off t.size) with
        | some ys => bif Nat.ble (off + t.size) o.length then frzM i off (lcut o off t.size) (k (.agg ys)) else .fail
        | none => .fail)
    else .rdC i off fun
      | some x => match readCell x i off with
        | some v => k v
        | none => .fail
      | none => .fail
  | .rp _ xs => match ofCells t xs with
    | some v => k v
    | none => .fail
  | .ep h i off => homeM h fun
    | .sl z xs _ => match lget xs i with
      | some x => match ofCells t (x.cells.drop off) with
        | some v => k v
        | none => .fail
      | none => .fail
    | _ => .fail
  | _ => .fail
def killCellsM (i off : Nat) : Nat → M → M
  | 0, m => m
  | n + 1, m => .kil (.cell i off) (killCellsM i (off + 1) n m)
def storePM (t : Ty) (i off : Nat) (v : AV) (m : M) : M := .rdO i fun
  | none => .fail
  | some o => bif Nat.beq v.cells.length t.size && Nat.ble (off + t.size) o.length && !v.isUnk && allCellOk v.cells then
      (bif ownerIn (lcut o off t.size) then killCellsM i off t.size (.wrO i (splice o off v.cells) m) else .wrO i (splice o off v.cells) m)
    else .fail
def storeEM (t : Ty) (h : Home) (i off : Nat) (v : AV) (m : M) : M := homeM h fun hv => match hv, v.data with
  | .sl z xs .full, some y => match lget xs i with
    | some (.agg es) => bif Nat.beq y.cells.length t.size && Nat.ble (off + t.size) es.length then homePutM h (.sl z (lset xs i (.agg (splice es off y.cells))) .full) m else .fail
    | some (.s _) => match y with
      | .s c => bif Nat.beq t.size 1 && Nat.beq off 0 then homePutM h (.sl z (lset xs i (.s c)) .full) m else .fail
      | _ => .fail
    | _ => .fail
  | _, _ => .fail
def storeNM (t : Ty) (a : Operand) (o : List AV) (v : AV) (m : M) : M := match a with
  | .tmp b => bif Nat.beq v.cells.length t.size && Nat.beq o.length t.size && !v.isUnk && allCellOk v.cells then .wrS b (.nb v.cells) m else .fail
  | _ => .fail
def storeSM (A : Ar) (h : Home) (z lo len i off : Nat) (m : M) : M := homeM h fun
  | .sl z xs .full => bif Nat.beq lo 0 && A.nle len xs.length then .kil (.cell i off) (homePutM h (.sl z (xs.take len) .full) m) else .fail
  | _ => .fail
def storeGM (A : Ar) (t : Ty) (a x : Operand) (m : M) : M := valueM A x fun v => opdM a fun
  | .ptr i off => storePM t i off v m
  | .nb o => storeNM t a o v m
  | .ep h i off => storeEM t h i off v m
  | _ => .fail
def storeM (A : Ar) (t : Ty) (a x : Operand) (m : M) : M := opdM a fun av => opdM x fun xv => match av, xv with
  | .ptr i off, .al z h lo len => bif sameCell h i off && Nat.beq t.size 1 then (match h with
      | .cell _ _ => storeSM A h z lo len i off m
      | .slot _ => .fail) else storeGM A t a x m
  | _, _ => storeGM A t a x m
def dropM (x : Operand) (m : M) : M := match x with
  | .tmp t => .rdS t fun
    | .sl _ _ .full => .wrS t .gone m
    | _ => m
  | _ => m
def srcM (A : Ar) (arg : Operand) (u : Ty) (k : Nat → List AV → M) : M := opdM arg fun
  | .s (.string s) => bif u.isStr then k 1 (ofBytes s) else .fail
  | v => bif u.isSlice then elemsM A v (fun
    | some (y, ys) => k y ys
    | none => .fail) else .fail
def appendM (A : Ar) (e : Ty) (base arg : Operand) (u : Ty) (k : AV → M) : M := srcM A arg u fun y ys => dropM arg (opdM base fun
  | .sl z xs .full => bif Nat.beq z e.size && Nat.beq y e.size && A.fit (xs.length + ys.length) e.bytes && Nat.ble 1 e.bytes then dropM base (k (.sl z (xs ++ ys) .full)) else .fail
  | .al z h lo len => homeM h fun
    | .sl z xs .full => bif Nat.beq z e.size && Nat.beq y e.size && Nat.beq lo 0 && A.neq len xs.length && A.fit (xs.length + ys.length) e.bytes && Nat.ble 1 e.bytes then homePutM h .gone (k (.sl z (xs ++ ys) .full)) else .fail
    | _ => .fail
  | _ => .fail)
def optM (r : Option AV) (k : AV → M) : M := match r with
  | some v => k v
  | none => .fail
def builtinM (env : Env) (b : Builtin) (args : List Operand) (ts : List Nat) (k : AV → M) : M := match b, args with
  | .len, [x] => match ts with
    | [t] => match env.ty t with
      | some ty => opdM x fun v => match lenOf env.A ty v with
        | some n => k (.s (.int .i64 (.ofNat n)))
        | none => .fail
      | none => .fail
    | _ => .fail
  | .append, [x, y] => match ts with
    | [t, u] => match env.elemOf t, env.ty u with
      | some e, some uy => appendM env.A e x y uy k
      | _, _ => .fail
    | _ => .fail
  | .min, [x, y] => opdM x fun a => opdM y fun b => match a, b with
    | .s (.int j a), .s (.int k' b) => bif kindEq j k' then k (.s (.int k' (bif env.A.lt b a then b else a))) else .fail
    | _, _ => .fail
  | .max, [x, y] => opdM x fun a => opdM y fun b => match a, b with
    | .s (.int j a), .s (.int k' b) => bif kindEq j k' then k (.s (.int k' (bif env.A.lt a b then b else a))) else .fail
    | _, _ => .fail
  | _, _ => .fail
def optOpdM (x : Option Operand) (k : Option AV → M) : M := match x with
  | none => k none
  | some x => opdM x fun v => k (some v)
def opdLM : List Operand → (List AV → M) → M
  | [], k => k []
  | x :: xs, k => opdM x fun v => opdLM xs fun vs => k (v :: vs)
def fakeSt : St := ⟨0, 0, [], []⟩
/-- slicing and indexing look at the operand alone -/
def oneSt (x : Operand) (v : AV) : St := match x with
  | .tmp t => ⟨0, 0, [(t, v)], []⟩
  | _ => fakeSt
def stepM (env : Env) (op : Op) (k : AV → M) : M := match op with
  | .move x => copyM x k
  | .pick c a b => opdM c fun v => match boolOf v with
    | some true => copyM a k
    | some false => copyM b k
    | none => .fail
  | .alloc t => match env.ty t with
    | some ty => bif bldOk t ty.zero.length then k (.nb ty.zero) else .fail
    | none => .fail
  | .box t x => match env.ty t with
    | some ty => valueM env.A x fun v => bif Nat.beq v.cells.length ty.size then (bif !v.isUnk && allCellOk v.cells && bldOk t v.cells.length then .rdL fun n => .psh [v.cells] (k (.ptr n 0)) else .fail) else .fail
    | none => .fail
  | .build t ps => match env.ty t with
    | some ty => valuesM env.A ps.toList fun vs => bif ty.isAgg then (match fillParts ty ty.zero vs with
        | some cs => k (.agg cs)
        | none => .fail) else .fail
    | none => .fail
  | .buildSlice t n ps => match env.elemOf t with
    | some e => valuesM env.A ps.toList fun vs => match (zeroOf e).data with
        | some y => match setParts e.size (List.replicate n y) vs with
          | some xs => bif Nat.ble (n * e.size) 16777216 then k (.sl e.size xs .full) else .fail
          | none => .fail
        | none => .fail
    | none => .fail
  | .load t a => match env.ty t with
    | some ty => opdM a fun v => loadM ty v k
    | none => .fail
  | .nilCheck x => opdM x fun
    | .ptr i off => k (.ptr i off)
    | .rp r xs => k (.rp r xs)
    | .ep h i off => k (.ep h i off)
    | _ => .fail
  | .binOp op t x y _ => opdM x fun a => opdM y fun b => optM (binO env.A env.ty op t x y a b) k
  | .unOp op _ x => opdM x fun v => match op, v with
    | .not, .s (.bool b) => k (.s (.bool (!b)))
    | .neg, .s (.int j n) => k (.s (.int j (env.A.sub j 0 n)))
    | _, _ => .fail
  | .convert a b x => match env.ty a, env.ty b with
    | some ta, some tb => opdM x fun v => elemsM env.A v fun es => optM (convV env.A ta tb (env.ty ta.elem) (env.ty tb.elem) v es) k
    | _, _ => .fail
  | .makeInterface t x => opdM x fun v => match v, env.ty t with
    | .s v, some ty => bif ty.plainK then k (.s (.iface t v)) else .fail
    | _, _ => .fail
  | .makeFunc fn first caps => match fn with
    | .func f => opdLM first.toList fun a => opdLM caps.toList fun b => bif okCaps a && okCaps b then k (.fn f a b) else .fail
    | _ => .fail
  | .makeSlice t l c => match env.elemOf t with
    | some e => opdM l fun lv => opdM c fun cv => match natOf lv, natOf cv, (zeroOf e).data with
      | some n, some m, some y => bif env.A.neq n m && env.A.fit n e.bytes && Nat.beq y.cells.length e.size && Nat.ble 1 e.bytes then k (.sl e.size (List.replicate n y) .full) else .fail
      | _, _, _ => .fail
    | none => .fail
  | .slice t x lo hi mx => match mx with
    | none => match env.ty t with
      | some ty => opdM x fun v => optOpdM lo fun l => optOpdM hi fun h => bif ty.isStr then optM (sliceS env.A v l h) k else
        (match env.elemOf t with
          | some e => optM (sliceV env.A (oneSt x v) e.size x l h) k
          | none => .fail)
      | none => .fail
    | some _ => .fail
  | .fieldAddr t x f => match env.ty t with
    | some ty => opdM x fun v => match lget ty.offs f, v with
      | some (some (off, _)), .ptr i o => k (.ptr i (o + off))
      | some (some (off, _)), .rp r xs => k (.rp r (xs.drop off))
      | some (some (off, _)), .ep h i o => k (.ep h i (o + off))
      | _, _ => .fail
    | none => .fail
  | .indexAddr t x i => match env.elemOf t with
    | some e => opdM x fun v => opdM i fun j => optM (indexV env.A (oneSt x v) e.size x j) k
    | none => .fail
  | .index t x i => opdM x fun v => opdM i fun j => match v, natOf j, env.ty t with
    | .s (.string s), some j, some ty => match env.A.at_ s j with
      | some b => bif ty.isStr then k (.s (.int .u8 b)) else .fail
      | none => .fail
    | _, _, _ => .fail
  | .extract x i => match x with
    | .tmp t => .rdS t fun
      | .tup xs => match lget xs i with
        | some v => bif v.isAl then .fail else (bif v.keepable then k v else .wrS t (.tup (lset xs i .gone)) (k v))
        | none => .fail
      | _ => .fail
    | _ => .fail
  | .call c => match c.callee with
    | .builtin b => builtinM env b c.args.toList c.argTypes.toList k
    | _ => .fail
  | _ => .fail
def dputM (dst : Option Nat) (v : AV) (m : M) : M := match dst with
  | some d => .rdN fun n => bif Nat.blt d n then .own d fun b => (bif b then .kil (.slot d) (.wrS d (bif v.atSlot d then .unk else v) m) else .wrS d (bif v.atSlot d then .unk else v) m) else m
  | none => m
def assignM (A : Ar) (d : Nat) (x : Operand) : M := takeM x fun
  | .al z (.slot t) lo len => bif Nat.beq t d then .rdS d (fun
      | .sl z xs .full => .rdN fun n => bif Nat.beq lo 0 && A.nle len xs.length && Nat.blt d n then .kil (.slot d) (.wrS d (.sl z (xs.take len) .full) .ret) else .fail
      | _ => .fail)
    else dputM (some d) (.al z (.slot t) lo len) .ret
  | v => dputM (some d) v .ret
def oneM (env : Env) (o : Oper) : M := match o.op with
  | .assign x => match o.dst with
    | some d => match isNilConst x with
      | true => match env.elemOf o.type with
        | some e => dputM (some d) (.sl e.size [] .full) .ret
        | none => .fail
      | false => assignM env.A d x
    | none => .fail
  | .store t a x => match env.ty t with
    | some ty => storeM env.A ty a x (dputM o.dst .unk .ret)
    | none => .fail
  | op => stepM env op fun v => dputM o.dst v .ret
/-! ### Calls -/
def calleeM (c : Callee) (k : Nat → List AV → List AV → M) : M := match c with
  | .value f => opdM f fun
    | .fn f a b => k f a b
    | _ => .fail
  | _ => .fail
def argM (A : Ar) (x : Operand) (mode : Nat) (k : AV → M) : M := takeM x fun
  | .al z h lo len => match mode with
    | 0 => k (.al z h lo len)
    | 1 => homeM h fun
      | .sl z xs .full => bif Nat.beq lo 0 && A.neq len xs.length then homePutM h .gone (k (.sl z xs .full)) else .fail
      | _ => .fail
    | _ => freezeM h fun z xs => bif A.nle (lo + len) xs.length then k (.sl z (lcut xs lo len) .imm) else .fail
  | .agg xs => match plainL xs with
    | some ys => k (.agg ys)
    | none => .fail
  | .s v => k (.s v)
  | .sl z xs p => match p, mode with
    | .full, 2 => k (.sl z xs .imm)
    | p, _ => k (.sl z xs p)
  | .rp r xs => k (.rp r xs)
  | .ptr i off => k (.ptr i off)
  | .fn f a b => k (.fn f a b)
  | _ => .fail
def argsM (A : Ar) : List Operand → List Nat → (List AV → M) → M
  | [], _, k => k []
  | x :: xs, cs, k => argM A x (modeOf cs) fun v => argsM A xs cs.tail fun vs => k (v :: vs)
def lendM (A : Ar) (v : AV) (k : AV → M) : M := match v with
  | .al z h lo len => homeM h fun
    | .sl _ xs .imm => bif A.nle (lo + len) xs.length then k (.sl z (lcut xs lo len) .imm) else .fail
    | .sl _ xs _ => bif A.nle (lo + len) xs.length then k (.sl z (lcut xs lo len) .ro) else .fail
    | _ => .fail
  | v => k v
def lendLM (A : Ar) : List AV → (List AV → M) → M
  | [], k => k []
  | x :: xs, k => lendM A x fun y => lendLM A xs fun ys => k (y :: ys)
def mapM (f : AV → (AV → M) → M) : List AV → (List AV → M) → M
  | [], k => k []
  | x :: xs, k => f x fun y => mapM f xs fun ys => k (y :: ys)
def view0M (x : AV) (k : AV → M) : M := optM x.view0 k
def viewM : Nat → AV → (AV → M) → M
  | 0, x, k => view0M x k
  | n + 1, x, k => match x with
    | .ptr i off => .rdO i fun
      | some o => mapM (viewM n) o fun ys => k (.rp true (ys.drop off))
      | none => .fail
    | x => view0M x k
def viewAM (x : AV) (k : AV → M) : M := match x with
  | .sl z xs p => k (.sl z xs p)
  | .agg xs => mapM (viewM 8) xs fun ys => k (.agg ys)
  | .fn f a b => mapM (viewM 8) a fun a => mapM (viewM 8) b fun b => k (.fn f a b)
  | x => viewM 8 x k
def reachM : Nat → List Nat → List Nat → (List Nat → M) → M
  | _, [], acc, k => k acc
  | 0, _ :: _, _, _ => .fail
  | n + 1, i :: todo, acc, k => bif hasN i acc then reachM n todo acc k else .rdO i fun
    | some o => reachM n (AV.ptrs.ptrsL o ++ todo) (acc ++ [i]) k
    | none => .fail
def renM (m : List Nat) : List Nat → (Seg → M) → M
  | [], k => k []
  | i :: l, k => .rdO i fun
    | some o => match AV.ren.renL m o with
      | some p => renM m l fun ps => k (p :: ps)
      | none => .fail
    | none => .fail
def putBackM (m : List Nat) (base : Nat) : List Nat → Seg → M → M
  | [], [], k => k
  | [], o :: O2, k => .psh ((o :: O2).map (AV.renB.renBL m base)) k
  | i :: l, o :: O2, k => .wrO i (AV.renB.renBL m base o) (putBackM m base l O2 k)
  | _ :: _, [], k => k
def afterM (m : List Nat) (dst : Option Nat) : Res → M
  | .ret v O2 => bif Nat.ble m.length O2.length then .rdL fun n => putBackM m n m O2 (dputM dst (v.renB m n) .ret) else .fail
  | _ => .fail
def callM (env : Env) (ce : Callee) (args : List Operand) (dst : Option Nat) : M := calleeM ce fun f _ _ => argsM env.A args (env.cons f) fun us => lendLM env.A us fun vs => calleeM ce fun g first caps =>
  bif Nat.beq g f && (okCaps first && okCaps caps) then
    (bif env.pure f then mapM viewAM (first ++ vs ++ caps) fun as => .ask (.call f as []) (afterM [] dst)
    else reachM 200 (AV.ptrs.ptrsL (first ++ vs ++ caps)) [] fun m => bif apartN m (lentOf us) then (match AV.ren.renL m (first ++ vs ++ caps) with
      | some as => renM m m fun O => match m with
        | [] => .ask (.call f as O) (afterM m dst)
        | _ :: _ => .kil (.objs m) (.ask (.call f as O) (afterM m dst))
      | none => .fail) else .fail)
  else .fail
def guardM (ops : Array Oper) (o : Oper) (k : Bool → M) : M := match o.guard with
  | none => k true
  | some (j, want) => match lget ops.toList j with
    | some p => match p.dst with
      | some t => .rdS t fun
        | .s (.bool b) => k (match want with | true => b | false => !b)
        | .tup [] => k false
        | _ => .fail
      | none => .fail
    | none => .fail
def opM (env : Env) (ops : Array Oper) (o : Oper) : M := guardM ops o fun
  | false => dputM o.dst (.tup []) .ret
  | true => match isCall o.op with
    | none => oneM env o
    | some (ce, args) => callM env ce args o.dst
/-! ### Regions that draw their order -/
def Eff.free : Eff → Eff → Bool
  | .wrS t _, .wrS u _ => !(Nat.beq t u)
  | .wrS _ v, .kil K => !(v.hit K)
  | .kil K, .wrS _ v => !(v.hit K)
  | .wrO i _, .wrO j _ => !(Nat.beq i j)
  | .wrC i j _, .wrC i' j' _ => !(Nat.beq i i' && Nat.beq j j')
  | .wrC i _ _, .wrO i' _ => !(Nat.beq i i')
  | .wrO i _, .wrC i' _ _ => !(Nat.beq i i')
  | .wrC _ _ _, .psh _ => false
  | .psh _, .wrC _ _ _ => false
  | .wrO _ _, .psh _ => false
  | .psh _, .wrO _ _ => false
  | .psh _, .psh _ => false
  | _, _ => true
def freeAll (e : Eff) : List Eff → Bool
  | [] => true
  | f :: l => e.free f && freeAll e l
def freeEff : List Eff → List Eff → Bool
  | [], _ => true
  | e :: l, m => freeAll e m && freeEff l m
structure Item where
  T : Trc
  vs : List AV
def itemOf (T : Trc) (st : St) : Item := ⟨T, T.rs.map fun t => fget st.fr t⟩
def allLt (b : Nat) : List Nat → Bool
  | [] => true
  | i :: l => Nat.blt i b && allLt b l
def noHit (K : Kil) : List AV → Bool
  | [] => true
  | v :: l => !v.isUnk && !(v.hit K) && noHit K l
def hasP (i j : Nat) : List (Nat × Nat) → Bool
  | [] => false
  | (a, b) :: l => (Nat.beq a i && Nat.beq b j) || hasP i j l
def hasP1 (i : Nat) : List (Nat × Nat) → Bool
  | [] => false
  | (a, _) :: l => Nat.beq a i || hasP1 i l
def allLt1 (b : Nat) : List (Nat × Nat) → Bool
  | [] => true
  | (i, _) :: l => Nat.blt i b && allLt1 b l
def Eff.spares (b0 : Nat) (it : Item) : Eff → Bool
  | .wrS t _ => !(hasN t it.T.rs) && !(hasN t it.T.rw)
  | .wrO i _ => !(hasN i it.T.ro) && !(hasP1 i it.T.rc)
  | .wrC i j _ => !(hasN i it.T.ro) && !(hasP i j it.T.rc)
  | .psh _ => !it.T.len && allLt b0 it.T.ro && allLt1 b0 it.T.rc
  | .kil K => noHit K it.vs
def spareAll (b0 : Nat) (it : Item) : List Eff → Bool
  | [] => true
  | e :: l => e.spares b0 it && spareAll b0 it l
def apart (b0 : Nat) (a b : Item) : Bool := freeEff a.T.eff b.T.eff && spareAll b0 b a.T.eff && spareAll b0 a b.T.eff
def maskOf (masks : List Nat) : List Edge → Nat
  | [] => 0
  | e :: l => bif Region.binds .any e then (maskOf masks l ||| (1 <<< e.on) ||| (match lget masks e.on with | some m => m | none => 0)) else maskOf masks l
def edgesLt (j : Nat) : List Edge → Bool
  | [] => true
  | e :: l => (!(Region.binds .any e) || Nat.blt e.on j) && edgesLt j l
def chk (b0 mask : Nat) : Nat → List Item → Item → Bool
  | _, [], _ => true
  | i, a :: l, b => (Nat.testBit mask i || apart b0 a b) && chk b0 mask (i + 1) l b
/-- a region that draws, in the order of the text; what isn't ordered must be apart -/
def evd (env : Env) (E : Task → Option Res) (ops : Array Oper) (b0 : Nat) : List Oper → St → List Nat → List Item → Option St
  | [], st, _, _ => some st
  | o :: rest, st, masks, its => match run E (opM env ops o) st with
    | none => none
    | some (st1, T) => bif edgesLt masks.length o.after.toList && chk b0 (maskOf masks o.after.toList) 0 its (itemOf T st) then evd env E ops b0 rest st1 (masks ++ [maskOf masks o.after.toList]) (its ++ [itemOf T st]) else none
/-- the same, as a text that asks -/
def runP : M → St → (St → Trc → Prog) → Prog
  | .ret, st, k => k st Trc.none
  | .fail, _, _ => .done none
  | .rdN f, st, k => runP (f st.n) st k
  | .rdS t f, st, k => runP (f (fget st.fr t)) st fun s T => k s { T with rs := t :: T.rs }
  | .own t f, st, k => runP (f (fget st.fr t).owner) st fun s T => k s { T with rw := t :: T.rw }
  | .rdO i f, st, k => runP (f (objAt st i)) st fun s T => k s { T with ro := i :: T.ro }
  | .rdC i j f, st, k => runP (f (cellAt st i j)) st fun s T => k s { T with rc := (i, j) :: T.rc }
  | .rdL f, st, k => runP (f st.O.length) st fun s T => k s { T with len := true }
  | .wrS t v m, st, k => runP m ((Eff.wrS t v).app st) fun s T => k s { T with eff := .wrS t v :: T.eff }
  | .wrO i o m, st, k => runP m ((Eff.wrO i o).app st) fun s T => k s { T with ro := i :: T.ro, eff := .wrO i o :: T.eff }
  | .wrC i j v m, st, k => runP m ((Eff.wrC i j v).app st) fun s T => k s { T with eff := .wrC i j v :: T.eff }
  | .psh os m, st, k => runP m ((Eff.psh os).app st) fun s T => k s { T with len := true, eff := .psh os :: T.eff }
  | .kil K m, st, k => runP m ((Eff.kil K).app st) fun s T => k s { T with eff := .kil K :: T.eff }
  | .ask t f, st, k => .ask t fun r => runP (f r) st k
def drawProg (env : Env) (ops : Array Oper) (b0 : Nat) : List Oper → St → List Nat → List Item → (St → Prog) → Prog
  | [], st, _, _, k => k st
  | o :: rest, st, masks, its, k => runP (opM env ops o) st fun st1 T =>
      bif edgesLt masks.length o.after.toList && chk b0 (maskOf masks o.after.toList) 0 its (itemOf T st) then drawProg env ops b0 rest st1 (masks ++ [maskOf masks o.after.toList]) (its ++ [itemOf T st]) k else .done none
end Go.Va
