/- The verified abstract interpreter, a part of it: no statement of its own. -/
import Derived.Test.YtmklimlepgiffabVa5
set_option linter.unusedVariables false
set_option linter.unusedSimpArgs false
set_option linter.unusedVariables false
namespace Go.Va
section
variable {E : Task → Option Res} {st : St}
theorem ev_opt (r : Option AV) (k : AV → M) : ev E (optM r k) st = go2 E k (withSt st r) := by cases r <;> rfl
theorem ev_builtin (env : Env) (b : Builtin) (args : List Operand) (ts : List Nat) (k : AV → M) {st1 : St} (h : ev E (builtinM env b args ts k) st = some st1) : go2 E k (builtinV env st b args ts) = some st1 := by
  unfold builtinM at h
  split at h
  · rename_i x
    split at h
    · rename_i t
      simp only [builtinV]
      cases ht : env.ty t with
      | none => rw [ht] at h; cases h
      | some ty =>
        rw [ht] at h
        simp only [ev_opd] at h ⊢
        cases hl : lenOf env.A ty (opd st x) with
        | none => rw [hl] at h; cases h
        | some n => rw [hl] at h; exact h
    · cases h
  · rename_i x y
    split at h
    · rename_i t u
      simp only [builtinV]
      cases he : env.elemOf t with
      | none => rw [he] at h; cases h
      | some e =>
        cases hu : env.ty u with
        | none => rw [he, hu] at h; cases h
        | some uy =>
          rw [he, hu] at h
          simp only [ev_append] at h
          exact h
    · cases h
  · rename_i x y
    simp only [ev_opd] at h
    simp only [builtinV]
    split at h
    · rename_i j a k' b h1 h2
      rw [h1, h2]
      simp only
      cases hk : kindEq j k' with
      | false => rw [hk] at h; cases h
      | true => rw [hk] at h; exact h
    · cases h
  · rename_i x y
    simp only [ev_opd] at h
    simp only [builtinV]
    split at h
    · rename_i j a k' b h1 h2
      rw [h1, h2]
      simp only
      cases hk : kindEq j k' with
      | false => rw [hk] at h; cases h
      | true => rw [hk] at h; exact h
    · cases h
  · cases h
theorem ev_optOpd (x : Option Operand) (k : Option AV → M) : ev E (optOpdM x k) st = ev E (k (optOpd st x)) st := by
  cases x with
  | none => rfl
  | some x => simp only [optOpdM, ev_opd, optOpd]
theorem ev_opdL : ∀ (xs : List Operand) (k : List AV → M), ev E (opdLM xs k) st = ev E (k (opdL st xs)) st
  | [], k => rfl
  | x :: xs, k => by simp only [opdLM, ev_opd, opdL]; exact ev_opdL xs _
theorem one_opd (x : Operand) : opd (oneSt x (opd st x)) x = opd st x := by
  cases x with
  | tmp t => simp only [oneSt, opd, fget, Nat.beq_refl, cond_true]
  | _ => rfl
theorem one_slice (A : Ar) (n : Nat) (x : Operand) (l h : Option AV) : sliceV A (oneSt x (opd st x)) n x l h = sliceV A st n x l h := by
  simp only [sliceV, one_opd]
theorem one_index (A : Ar) (n : Nat) (x : Operand) (i : AV) : indexV A (oneSt x (opd st x)) n x i = indexV A st n x i := by
  simp only [indexV, one_opd]
theorem ev_step (env : Env) (op : Op) (k : AV → M) {st1 : St} (h : ev E (stepM env op k) st = some st1) : go2 E k (stepV env st op) = some st1 := by
  unfold stepM at h
  split at h
  · rw [ev_copy] at h; exact h
  · rename_i c a b
    simp only [ev_opd] at h
    simp only [stepV]
    cases hb : boolOf (opd st c) with
    | none => rw [hb] at h; cases h
    | some t =>
      rw [hb] at h
      cases t <;> (simp only [ev_copy] at h; exact h)
  · rename_i t
    simp only [stepV]
    cases ht : env.ty t with
    | none => rw [ht] at h; cases h
    | some ty =>
      rw [ht] at h
      simp only at h ⊢
      cases hb : bldOk t ty.zero.length with
      | false => rw [hb] at h; cases h
      | true => rw [hb] at h; exact h
  · rename_i t x
    simp only [stepV]
    cases ht : env.ty t with
    | none => rw [ht] at h; cases h
    | some ty =>
      rw [ht] at h
      simp only [ev_value] at h ⊢
      cases hv : valueV env.A st x with
      | none => rw [hv] at h; cases h
      | some r =>
        obtain ⟨v, st2⟩ := r
        rw [hv] at h
        simp only [go2] at h ⊢
        cases h1 : Nat.beq v.cells.length ty.size with
        | false => rw [h1] at h; cases h
        | true =>
          rw [h1] at h
          simp only [cond_true] at h ⊢
          cases h2 : !v.isUnk && allCellOk v.cells && bldOk t v.cells.length with
          | false => rw [h2] at h; cases h
          | true => rw [h2] at h; exact h
  · rename_i t ps
    simp only [stepV]
    cases ht : env.ty t with
    | none => rw [ht] at h; cases h
    | some ty =>
      rw [ht] at h
      simp only [ev_values] at h ⊢
      cases hv : valuesV env.A st ps.toList with
      | none => rw [hv] at h; cases h
      | some r =>
        obtain ⟨vs, st2⟩ := r
        rw [hv] at h
        simp only [go2] at h ⊢
        cases h1 : ty.isAgg with
        | false => rw [h1] at h; cases h
        | true =>
          rw [h1] at h
          simp only [cond_true] at h ⊢
          cases h2 : fillParts ty ty.zero vs with
          | none => rw [h2] at h; cases h
          | some cs => rw [h2] at h; exact h
  · rename_i t n ps
    simp only [stepV]
    cases ht : env.elemOf t with
    | none => rw [ht] at h; cases h
    | some e =>
      rw [ht] at h
      simp only [ev_values] at h ⊢
      cases hv : valuesV env.A st ps.toList with
      | none => rw [hv] at h; cases h
      | some r =>
        obtain ⟨vs, st2⟩ := r
        rw [hv] at h
        simp only [go2] at h ⊢
        cases hz : (zeroOf e).data with
        | none => rw [hz] at h; cases h
        | some y =>
          rw [hz] at h
          simp only at h ⊢
          cases hs : setParts e.size (List.replicate n y) vs with
          | none => rw [hs] at h; cases h
          | some xs =>
            rw [hs] at h
            simp only at h ⊢
            cases h2 : Nat.ble (n * e.size) 16777216 with
            | false => rw [h2] at h; cases h
            | true => rw [h2] at h; exact h
  · rename_i t a
    simp only [stepV]
    cases ht : env.ty t with
    | none => rw [ht] at h; cases h
    | some ty =>
      rw [ht] at h
      simp only [ev_opd, ev_load] at h ⊢
      exact h
  · rename_i x
    simp only [ev_opd] at h
    simp only [stepV]
    split at h
    · rename_i e; rw [e]; exact h
    · rename_i e; rw [e]; exact h
    · rename_i e; rw [e]; exact h
    · cases h
  · simp only [ev_opd, ev_opt] at h
    exact h
  · rename_i op t x
    simp only [ev_opd] at h
    simp only [stepV]
    split at h
    · rename_i e; rw [e]; exact h
    · rename_i e; rw [e]; exact h
    · cases h
  · rename_i a b x
    simp only [stepV]
    cases ha : env.ty a with
    | none => rw [ha] at h; cases h
    | some ta =>
      cases hb : env.ty b with
      | none => rw [ha, hb] at h; cases h
      | some tb =>
        rw [ha, hb] at h
        simp only [ev_opd, ev_elems, ev_opt] at h
        exact h
  · rename_i t x
    simp only [ev_opd] at h
    simp only [stepV]
    split at h
    · rename_i v ty e1 e2
      rw [e1, e2]
      simp only
      cases hp : ty.plainK with
      | false => rw [hp] at h; cases h
      | true => rw [hp] at h; exact h
    · cases h
  · rename_i fn first caps
    simp only [stepV]
    cases fn with
    | func f =>
      simp only [ev_opdL] at h ⊢
      cases hc : okCaps (opdL st first.toList) && okCaps (opdL st caps.toList) with
      | false => rw [hc] at h; cases h
      | true => rw [hc] at h; exact h
    | _ => cases h
  · rename_i t l c
    simp only [stepV]
    cases ht : env.elemOf t with
    | none => rw [ht] at h; cases h
    | some e =>
      rw [ht] at h
      simp only [ev_opd] at h ⊢
      split at h
      · rename_i n m y e1 e2 e3
        rw [e1, e2, e3]
        simp only
        cases hp : env.A.neq n m && env.A.fit n e.bytes && Nat.beq y.cells.length e.size && Nat.ble 1 e.bytes with
        | false => rw [hp] at h; cases h
        | true => rw [hp] at h; exact h
      · cases h
  · rename_i t x lo hi mx
    simp only [stepV]
    cases mx with
    | some m => cases h
    | none =>
      simp only at h ⊢
      cases ht : env.ty t with
      | none => rw [ht] at h; cases h
      | some ty =>
        rw [ht] at h
        simp only [ev_opd, ev_optOpd] at h ⊢
        cases hs : ty.isStr with
        | true =>
          rw [hs] at h
          simp only [cond_true, ev_opt] at h ⊢
          exact h
        | false =>
          rw [hs] at h
          simp only [cond_false] at h ⊢
          cases he : env.elemOf t with
          | none => rw [he] at h; cases h
          | some e =>
            rw [he] at h
            simp only [ev_opt, one_slice] at h ⊢
            exact h
  · rename_i t x f
    simp only [stepV]
    cases ht : env.ty t with
    | none => rw [ht] at h; cases h
    | some ty =>
      rw [ht] at h
      simp only [ev_opd] at h ⊢
      split at h
      · rename_i e1 e2; rw [e1, e2]; exact h
      · rename_i e1 e2; rw [e1, e2]; exact h
      · rename_i e1 e2; rw [e1, e2]; exact h
      · cases h
  · rename_i t x i
    simp only [stepV]
    cases ht : env.elemOf t with
    | none => rw [ht] at h; cases h
    | some e =>
      rw [ht] at h
      simp only [ev_opd, ev_opt, one_index] at h ⊢
      exact h
  · rename_i t x i
    simp only [ev_opd] at h
    simp only [stepV]
    split at h
    · rename_i s j ty e1 e2 e3
      rw [e1, e2, e3]
      simp only
      cases hb : env.A.at_ s j with
      | none => rw [hb] at h; cases h
      | some b =>
        rw [hb] at h
        simp only at h ⊢
        cases hs : ty.isStr with
        | false => rw [hs] at h; cases h
        | true => rw [hs] at h; exact h
    · cases h
  · rename_i x i
    simp only [stepV]
    cases x with
    | tmp t =>
      simp only [ev] at h ⊢
      split at h
      · rename_i xs e
        rw [e]
        simp only
        cases hv : lget xs i with
        | none => rw [hv] at h; cases h
        | some v =>
          rw [hv] at h
          simp only at h ⊢
          cases ha : v.isAl with
          | true => rw [ha] at h; cases h
          | false =>
            rw [ha] at h
            simp only [cond_false] at h ⊢
            cases hk : v.keepable with
            | true => rw [hk] at h; exact h
            | false => rw [hk] at h; exact h
      · cases h
    | _ => cases h
  · rename_i c
    simp only [stepV]
    split at h
    · rename_i b e
      rw [e]
      exact ev_builtin env b _ _ k h
    · cases h
  · cases h
theorem ev_dput (dst : Option Nat) (v : AV) (m : M) : ev E (dputM dst v m) st = ev E m (dput st dst v) := by
  cases dst with
  | none => rfl
  | some d =>
    simp only [dputM, ev, dput]
    cases Nat.blt d st.n with
    | false => rfl
    | true =>
      simp only [cond_true, ev, fset]
      cases (fget st.fr d).owner with
      | false => rfl
      | true => simp only [cond_true, ev, Eff.app, killK_slot]
theorem ev_assign (A : Ar) (d : Nat) (x : Operand) {st1 : St} (h : ev E (assignM A d x) st = some st1) : assignV A st d x = some st1 := by
  simp only [assignM, ev_take] at h
  unfold assignV
  cases ht : takeV st x with
  | none => rw [ht] at h; cases h
  | some r =>
    obtain ⟨v, st2⟩ := r
    rw [ht] at h
    have other : ∀ v, ev E (dputM (some d) v .ret) st2 = some st1 → dputO (some d) (some (v, st2)) = some st1 := fun v h => by
      rw [ev_dput] at h; exact h
    cases v with
    | al z hm lo len =>
      cases hm with
      | slot t =>
        simp only [go2] at h
        simp only
        cases hd : Nat.beq t d with
        | false => rw [hd] at h; exact other _ h
        | true =>
          rw [hd] at h
          simp only [cond_true, ev] at h ⊢
          split at h
          · rename_i e
            rw [e]
            simp only [ev] at h ⊢
            revert h
            generalize (Nat.beq lo 0 && _ && _) = q
            cases q with
            | false => intro h; cases h
            | true => intro h; simpa only [cond_true, ev, Eff.app, killK_slot] using h
          · cases h
      | cell i off => exact other _ h
    | _ => exact other _ h
theorem ev_one (env : Env) (o : Oper) {st1 : St} (h : ev E (oneM env o) st = some st1) : stepOp env st o = some st1 := by
  unfold oneM at h
  unfold stepOp
  have other : ∀ op, ev E (stepM env op fun v => dputM o.dst v .ret) st = some st1 → dputO o.dst (stepV env st op) = some st1 := fun op h => by
    have := ev_step _ _ _ h
    cases hs : stepV env st op with
    | none => rw [hs] at this; cases this
    | some r =>
      obtain ⟨v, st2⟩ := r
      rw [hs] at this
      simp only [go2, ev_dput] at this
      exact this
  cases ho : o.op with
  | assign x =>
    rw [ho] at h
    simp only at h ⊢
    cases hd : o.dst with
    | none => rw [hd] at h; cases h
    | some d =>
      rw [hd] at h
      simp only at h ⊢
      cases hn : isNilConst x with
      | true =>
        rw [hn] at h
        simp only at h ⊢
        cases he : env.elemOf o.type with
        | none => rw [he] at h; cases h
        | some e => rw [he] at h; simp only [ev_dput] at h; exact h
      | false =>
        rw [hn] at h
        exact ev_assign _ _ _ h
  | store t a x =>
    rw [ho] at h
    simp only at h ⊢
    cases ht : env.ty t with
    | none => rw [ht] at h; cases h
    | some ty =>
      rw [ht] at h
      have := ev_store _ _ _ _ _ h
      simp only
      cases hs : storeV env.A st ty a x with
      | none => rw [hs] at this; cases this
      | some st2 => rw [hs] at this; simp only [go1, ev_dput] at this; exact this
  | _ => rw [ho] at h; exact other _ h
theorem ev_callee (c : Callee) (k : Nat → List AV → List AV → M) : ev E (calleeM c k) st = (match calleeOf st c with | some (f, a, b) => ev E (k f a b) st | none => none) := by
  cases c with
  | value f =>
    simp only [calleeM, ev_opd, calleeOf]
    cases opd st f <;> rfl
  | _ => rfl
theorem ev_arg (A : Ar) (x : Operand) (mode : Nat) (k : AV → M) : ev E (argM A x mode k) st = go2 E k (argV A st x mode) := by
  simp only [argM, ev_take, argV]
  cases takeV st x with
  | none => rfl
  | some r =>
    obtain ⟨v, st1⟩ := r
    cases v with
    | al z h lo len =>
      simp only [go2]
      match mode with
      | 0 => rfl
      | 1 =>
        simp only [ev_home]
        cases homeGet st1 h with
        | sl z' xs p =>
          cases p with
          | full =>
            simp only
            cases Nat.beq lo 0 && A.neq len xs.length with
            | false => rfl
            | true => simp only [cond_true, ev_homePut]
          | _ => rfl
        | _ => rfl
      | n + 2 =>
        simp only [ev_freeze]
        cases freezeAt st1 h with
        | none => rfl
        | some r =>
          obtain ⟨z', xs, st2⟩ := r
          simp only
          cases A.nle (lo + len) xs.length <;> rfl
    | agg xs => simp only [go2]; cases plainL xs <;> rfl
    | sl z xs p =>
      simp only [go2]
      cases p with
      | full => match mode with | 0 => rfl | 1 => rfl | 2 => rfl | n + 3 => rfl
      | _ => rfl
    | _ => rfl
theorem ev_args (A : Ar) : ∀ (xs : List Operand) (cs : List Nat) (k : List AV → M) (st : St), ev E (argsM A xs cs k) st = go2 E k (argsV A st xs cs)
  | [], cs, k, st => rfl
  | x :: xs, cs, k, st => by
    simp only [argsM, ev_arg, argsV]
    cases argV A st x (modeOf cs) with
    | none => rfl
    | some r =>
      obtain ⟨v, st1⟩ := r
      simp only [go2]
      rw [ev_args A xs _ _ st1]
      cases argsV A st1 xs cs.tail with
      | none => rfl
      | some r => rfl
def goK {α : Type} (E : Task → Option Res) (k : α → M) (st : St) (r : Option α) : Option St := match r with
  | some v => ev E (k v) st
  | none => none
theorem ev_lend (A : Ar) (v : AV) (k : AV → M) : ev E (lendM A v k) st = goK E k st (lendV A st v) := by
  cases v with
  | al z h lo len =>
    simp only [lendM, ev_home, lendV]
    cases homeGet st h with
    | sl z' xs p => cases p <;> (simp only; cases A.nle (lo + len) xs.length <;> rfl)
    | _ => rfl
  | _ => rfl
theorem ev_lends (A : Ar) : ∀ (xs : List AV) (k : List AV → M), ev E (lendLM A xs k) st = goK E k st (lendL A st xs)
  | [], k => rfl
  | x :: xs, k => by
    simp only [lendLM, ev_lend, lendL]
    cases lendV A st x with
    | none => rfl
    | some y =>
      simp only [goK]
      rw [ev_lends A xs]
      cases lendL A st xs <;> rfl
theorem ev_mapM {f : AV → (AV → M) → M} {g : AV → Option AV} (hf : ∀ x k, ev E (f x k) st = goK E k st (g x)) : ∀ (xs : List AV) (k : List AV → M), ev E (mapM f xs k) st = goK E k st (mapO g xs)
  | [], k => rfl
  | x :: xs, k => by
    simp only [mapM, hf, mapO]
    cases g x with
    | none => rfl
    | some y =>
      simp only [goK]
      rw [ev_mapM hf xs]
      cases mapO g xs <;> rfl
theorem ev_view0 (x : AV) (k : AV → M) : ev E (view0M x k) st = goK E k st x.view0 := by
  simp only [view0M]; cases x.view0 <;> rfl
theorem ev_view : ∀ (n : Nat) (x : AV) (k : AV → M), ev E (viewM n x k) st = goK E k st (x.view st.O n)
  | 0, x, k => by simp only [viewM, AV.view, ev_view0]
  | n + 1, x, k => by
    unfold viewM AV.view
    cases x with
    | ptr i off =>
      simp only [ev, objAt]
      cases lget st.O i with
      | none => rfl
      | some o =>
        simp only
        rw [ev_mapM (g := AV.view st.O n) (fun x k => ev_view n x k)]
        cases mapO (AV.view st.O n) o <;> rfl
    | _ => exact ev_view0 _ _
theorem ev_viewA (x : AV) (k : AV → M) : ev E (viewAM x k) st = goK E k st (x.viewA st.O) := by
  have hm : ∀ xs k, ev E (mapM (viewM 8) xs k) st = goK E k st (mapO (AV.view st.O 8) xs) := fun xs k => ev_mapM (g := AV.view st.O 8) (fun x k => ev_view 8 x k) xs k
  cases x with
  | agg xs => simp only [viewAM, hm, AV.viewA]; cases mapO (AV.view st.O 8) xs <;> rfl
  | fn f a b =>
    simp only [viewAM, hm, AV.viewA]
    cases mapO (AV.view st.O 8) a with
    | none => rfl
    | some a' => simp only [goK, hm]; cases mapO (AV.view st.O 8) b <;> rfl
  | sl z xs p => rfl
  | _ => simp only [viewAM, AV.viewA]; exact ev_view 8 _ k
theorem ev_reach : ∀ (n : Nat) (todo acc : List Nat) (k : List Nat → M), ev E (reachM n todo acc k) st = goK E k st (reachF st.O n todo acc)
  | 0, [], acc, k => rfl
  | n + 1, [], acc, k => rfl
  | 0, _ :: _, _, _ => rfl
  | n + 1, i :: todo, acc, k => by
    simp only [reachM, reachF]
    cases hasN i acc with
    | true => simp only [cond_true]; exact ev_reach n todo acc k
    | false =>
      simp only [cond_false, ev, objAt]
      cases lget st.O i with
      | none => rfl
      | some o => exact ev_reach n _ _ k
theorem ev_ren (m : List Nat) : ∀ (l : List Nat) (k : Seg → M), ev E (renM m l k) st = goK E k st (renObjs m st.O l)
  | [], k => rfl
  | i :: l, k => by
    simp only [renM, ev, objAt, renObjs]
    cases lget st.O i with
    | none => rfl
    | some o =>
      simp only
      cases AV.ren.renL m o with
      | none => rfl
      | some p =>
        simp only
        rw [ev_ren m l]
        cases renObjs m st.O l <;> rfl
theorem ev_putBack (m : List Nat) (base : Nat) (k : M) : ∀ (l : List Nat) (O2 : Seg) (st : St), ev E (putBackM m base l O2 k) st = ev E k { st with O := putBack m base l O2 st.O }
  | [], [], st => by simp only [putBackM, putBack, List.map_nil, List.append_nil]
  | [], o :: O2, st => rfl
  | i :: l, o :: O2, st => by
    simp only [putBackM, ev, putBack]
    rw [ev_putBack m base k l O2]
    rfl
  | _ :: _, [], st => rfl
/-- one operation of a region -/
def evo (env : Env) (E : Task → Option Res) (ops : Array Oper) (o : Oper) (st : St) : Option St :=
  match guardOf ops st o with
  | none => none
  | some true =>
      (match isCall o.op with
      | none => stepOp env st o
      | some (ce, args) => match calleeOf st ce with
        | none => none
        | some (f, _, _) => match callOf env st ce f args with
          | none => none
          | some (m, as, O, st0) => match E (.call f as O) with
            | some (.ret v O2) => match afterCall m st0 v O2 with
              | some (v, st2) => some (dput st2 o.dst v)
              | none => none
            | _ => none)
  | some false => some (dput st o.dst (.tup []))
theorem evr_cons (env : Env) (E : Task → Option Res) (ops : Array Oper) (o : Oper) (rest : List Oper) (st : St) : evr env E ops (o :: rest) st = (match evo env E ops o st with | some st1 => evr env E ops rest st1 | none => none) := by
  unfold evo
  rw [evr]
  cases guardOf ops st o with
  | none => rfl
  | some g =>
    cases g with
    | false => rfl
    | true =>
      simp only
      cases isCall o.op with
      | none => rfl
      | some r =>
        obtain ⟨ce, args⟩ := r
        simp only
        cases calleeOf st ce with
        | none => rfl
        | some r =>
          obtain ⟨f, _, _⟩ := r
          simp only
          cases callOf env st ce f args with
          | none => rfl
          | some r =>
            obtain ⟨m, as, O, st0⟩ := r
            simp only
            cases E (.call f as O) with
            | none => rfl
            | some r =>
              cases r with
              | code e s => rfl
              | ret v O2 =>
                simp only
                cases afterCall m st0 v O2 with
                | none => rfl
                | some r => rfl
theorem ev_after (m : List Nat) (dst : Option Nat) (r : Res) : ev E (afterM m dst r) st = (match r with | .ret v O2 => (match afterCall m st v O2 with | some (v, st2) => some (dput st2 dst v) | none => none) | _ => none) := by
  cases r with
  | code e s => rfl
  | ret v O2 =>
    simp only [afterM, afterCall]
    cases Nat.ble m.length O2.length with
    | false => rfl
    | true => simp only [cond_true, ev, ev_putBack, ev_dput]
theorem ev_call (env : Env) (ce : Callee) (args : List Operand) (dst : Option Nat) {st1 : St} (h : ev E (callM env ce args dst) st = some st1) :
    ∃ f x y, calleeOf st ce = some (f, x, y) ∧ ∃ m as O st0, callOf env st ce f args = some (m, as, O, st0) ∧ ∃ v O2, E (.call f as O) = some (.ret v O2) ∧ ∃ v' st2, afterCall m st0 v O2 = some (v', st2) ∧ st1 = dput st2 dst v' := by
  have tail : ∀ (f : Nat) (m : List Nat) (as : List AV) (O : Seg) (st0 : St), ev E (.ask (.call f as O) (afterM m dst)) st0 = some st1 → ∃ v O2, E (.call f as O) = some (.ret v O2) ∧ ∃ v' st2, afterCall m st0 v O2 = some (v', st2) ∧ st1 = dput st2 dst v' := by
    intro f m as O st0 h
    simp only [ev] at h
    cases he : E (.call f as O) with
    | none => rw [he] at h; cases h
    | some r =>
      rw [he] at h
      simp only [ev_after] at h
      cases r with
      | code e s => cases h
      | ret v O2 =>
        simp only at h
        cases ha : afterCall m st0 v O2 with
        | none => rw [ha] at h; cases h
        | some r =>
          obtain ⟨v', st2⟩ := r
          rw [ha] at h
          cases h
          exact ⟨v, O2, rfl, v', st2, ha, rfl⟩
  simp only [callM, ev_callee] at h
  cases hc : calleeOf st ce with
  | none => rw [hc] at h; cases h
  | some r =>
    obtain ⟨f, x, y⟩ := r
    rw [hc] at h
    simp only [ev_args] at h
    refine ⟨f, x, y, rfl, ?_⟩
    unfold callOf
    cases ha : argsV env.A st args (env.cons f) with
    | none => rw [ha] at h; cases h
    | some r =>
      obtain ⟨us, st0⟩ := r
      rw [ha] at h
      simp only [go2, ev_lends] at h
      cases hl : lendL env.A st0 us with
      | none => rw [hl] at h; cases h
      | some vs =>
        rw [hl] at h
        simp only [goK, ev_callee] at h
        cases hc2 : calleeOf st0 ce with
        | none => rw [hc2] at h; cases h
        | some r =>
          obtain ⟨g, first, caps⟩ := r
          rw [hc2] at h
          simp only at h
          simp only [hl, hc2]
          cases hg : Nat.beq g f && (okCaps first && okCaps caps) with
          | false => rw [hg] at h; cases h
          | true =>
            rw [hg] at h
            simp only [cond_true] at h ⊢
            cases hp : env.pure f with
            | true =>
              rw [hp] at h
              simp only [cond_true] at h ⊢
              rw [ev_mapM (g := AV.viewA st0.O) (fun x k => ev_viewA x k)] at h
              unfold viewArgs
              cases hv : mapO (AV.viewA st0.O) (first ++ vs ++ caps) with
              | none => rw [hv] at h; cases h
              | some as =>
                rw [hv] at h
                simp only [goK] at h
                exact ⟨[], as, [], st0, rfl, tail f [] as [] st0 h⟩
            | false =>
              rw [hp] at h
              simp only [cond_false, ev_reach] at h ⊢
              cases hr : reachF st0.O 200 (AV.ptrs.ptrsL (first ++ vs ++ caps)) [] with
              | none => rw [hr] at h; cases h
              | some m =>
                rw [hr] at h
                simp only [goK] at h ⊢
                cases hap : apartN m (lentOf us) with
                | false => rw [hap] at h; cases h
                | true =>
                  rw [hap] at h
                  simp only [cond_true] at h ⊢
                  cases hren : AV.ren.renL m (first ++ vs ++ caps) with
                  | none => rw [hren] at h; cases h
                  | some as =>
                    rw [hren] at h
                    simp only [ev_ren] at h ⊢
                    cases ho : renObjs m st0.O m with
                    | none => rw [ho] at h; cases h
                    | some O =>
                      rw [ho] at h
                      simp only [goK] at h ⊢
                      refine ⟨m, as, O, _, rfl, ?_⟩
                      cases m with
                      | nil =>
                        simp only [dropAl_none]
                        exact tail f [] as O st0 h
                      | cons i m =>
                        rw [ev] at h
                        simp only [Eff.app, killK_objs] at h
                        exact tail f (i :: m) as O _ h
theorem ev_guard (ops : Array Oper) (o : Oper) (k : Bool → M) : ev E (guardM ops o k) st = (match guardOf ops st o with | some b => ev E (k b) st | none => none) := by
  unfold guardM guardOf
  cases o.guard with
  | none => rfl
  | some r =>
    obtain ⟨j, want⟩ := r
    simp only
    cases lget ops.toList j with
    | none => rfl
    | some p =>
      simp only
      cases p.dst with
      | none => rfl
      | some t =>
        simp only [ev]
        split
        · rename_i e; rw [e]; rfl
        · rename_i e; rw [e]
        · rename_i e1 e2
          split
          · rename_i heq
            split at heq
            · rename_i b e; exact (e1 b e).elim
            · rename_i e; exact (e2 e).elim
            · cases heq
          · rfl
/-- The text of an operation does what the operation does. -/
theorem ev_op (env : Env) (ops : Array Oper) (o : Oper) {st1 : St} (h : ev E (opM env ops o) st = some st1) : evo env E ops o st = some st1 := by
  unfold opM at h
  rw [ev_guard] at h
  unfold evo
  cases hg : guardOf ops st o with
  | none => rw [hg] at h; cases h
  | some g =>
    rw [hg] at h
    cases g with
    | false => simp only [ev_dput] at h; exact h
    | true =>
      simp only at h ⊢
      cases hc : isCall o.op with
      | none => rw [hc] at h; exact ev_one _ _ h
      | some r =>
        obtain ⟨ce, args⟩ := r
        rw [hc] at h
        obtain ⟨f, x, y, e1, m, as, O, st0, e2, v, O2, e3, v', st2, e4, e5⟩ := ev_call _ _ _ _ h
        simp only [e1, e2, e3, e4, e5]
end
end Go.Va
