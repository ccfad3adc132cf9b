/- The verified abstract interpreter, a part of it: no statement of its own. -/
import Derived.Test.YtmklimlepgiffabVa4
set_option linter.unusedVariables false
set_option linter.unusedSimpArgs false
set_option linter.unusedVariables false
namespace Go.Va
def go2 {α : Type} (E : Task → Option Res) (k : α → M) (r : Option (α × St)) : Option St := match r with
  | some (v, st) => ev E (k v) st
  | none => none
def go1 (E : Task → Option Res) (m : M) (r : Option St) : Option St := match r with
  | some st => ev E m st
  | none => none
section
variable {E : Task → Option Res} {st : St}
theorem killK_slot (t : Nat) : ∀ fr, killK (.slot t) fr = killSlot t fr
  | [] => rfl
  | (u, v) :: fr => by simp only [killK, killSlot, killK_slot t fr]; rfl
theorem killK_cell (i off : Nat) : ∀ fr, killK (.cell i off) fr = killCell i off fr
  | [] => rfl
  | (u, v) :: fr => by simp only [killK, killCell, killK_cell i off fr]; rfl
theorem killK_objs (m : List Nat) : ∀ fr, killK (.objs m) fr = dropAl m fr
  | [] => rfl
  | (u, v) :: fr => by simp only [killK, dropAl, killK_objs m fr]; rfl
theorem hasN_none (i : Nat) : hasN i [] = false := rfl
theorem dropAl_none : ∀ fr, dropAl [] fr = fr
  | [] => rfl
  | (u, v) :: fr => by
    simp only [dropAl, dropAl_none fr]
    have : v.atObj [] = false := by cases v <;> first | rfl | (rename_i h _ _; cases h <;> rfl) | (rename_i h _ ; cases h <;> rfl) | (cases ‹Home› <;> rfl)
    rw [this]; rfl
theorem ev_opd (x : Operand) (k : AV → M) : ev E (opdM x k) st = ev E (k (opd st x)) st := by
  cases x <;> rfl
theorem ev_home (h : Home) (k : AV → M) : ev E (homeM h k) st = ev E (k (homeGet st h)) st := by
  cases h with
  | slot t => rfl
  | cell i off =>
    simp only [homeM, ev, homeGet, cellAt]
    cases objAt st i with
    | none => rfl
    | some o => simp only; cases lget o off <;> rfl
theorem ev_homePut (h : Home) (v : AV) (m : M) : ev E (homePutM h v m) st = ev E m (homePut st h v) := by
  cases h with
  | slot t => rfl
  | cell i off => rfl
theorem ev_elems (A : Ar) (v : AV) (k : Option (Nat × List AV) → M) : ev E (elemsM A v k) st = ev E (k (elems A st v)) st := by
  cases v with
  | al z h lo len =>
    simp only [elemsM, elems, ev_home]
    cases homeGet st h with
    | sl z' xs p => simp only; cases A.nle (lo + len) xs.length <;> rfl
    | _ => rfl
  | _ => rfl
theorem ev_copy (x : Operand) (k : AV → M) : ev E (copyM x k) st = go2 E k (copyV st x) := by
  cases x with
  | tmp t =>
    simp only [copyM, ev, copyV]
    cases fget st.fr t with
    | sl z xs p => cases p <;> rfl
    | agg xs =>
      simp only
      cases plainL xs with
      | none => rfl
      | some ys => simp only; cases anyFull xs <;> rfl
    | fn f a b => simp only; cases okCaps a && okCaps b <;> rfl
    | _ => rfl
  | _ => rfl
theorem ev_take (x : Operand) (k : AV → M) : ev E (takeM x k) st = go2 E k (takeV st x) := by
  cases x with
  | tmp t =>
    simp only [takeM, ev, takeV]
    cases fget st.fr t with
    | sl z xs p => cases p <;> rfl
    | fn f a b => simp only; cases okCaps a && okCaps b <;> rfl
    | _ => rfl
  | _ => rfl
theorem ev_freeze (h : Home) (k : Nat → List AV → M) : ev E (freezeM h k) st = (match freezeAt st h with | some (z, xs, st1) => ev E (k z xs) st1 | none => none) := by
  simp only [freezeM, ev_home, freezeAt]
  cases homeGet st h with
  | sl z xs p => cases p <;> first | rfl | simp only [ev_homePut]
  | _ => rfl
theorem ev_value (A : Ar) (x : Operand) (k : AV → M) : ev E (valueM A x k) st = go2 E k (valueV A st x) := by
  simp only [valueM, ev_take, valueV]
  cases takeV st x with
  | none => rfl
  | some r =>
    obtain ⟨v, st1⟩ := r
    cases v with
    | al z h lo len =>
      simp only [go2, ev_freeze]
      cases freezeAt st1 h with
      | none => rfl
      | some r =>
        obtain ⟨z', xs, st2⟩ := r
        simp only
        cases A.nle (lo + len) xs.length <;> rfl
    | sl z xs p => cases p <;> rfl
    | _ => rfl
theorem ev_values (A : Ar) : ∀ (ps : List (Nat × Operand)) (k : List (Nat × AV) → M) (st : St), ev E (valuesM A ps k) st = go2 E k (valuesV A st ps)
  | [], k, st => rfl
  | (j, x) :: ps, k, st => by
    simp only [valuesM, ev_value, valuesV]
    cases valueV A st x with
    | none => rfl
    | some r =>
      obtain ⟨v, st1⟩ := r
      simp only [go2]
      rw [ev_values A ps _ st1]
      cases valuesV A st1 ps with
      | none => rfl
      | some r => rfl
theorem set_self {α : Type} {l : List α} {n : Nat} {y : α} (h : l[n]? = some y) : l.set n y = l := by
  apply List.ext_getElem?
  intro m
  rw [List.getElem?_set]
  by_cases e : n = m
  · subst e
    rw [if_pos rfl, if_pos (List.getElem?_eq_some_iff.1 h).1, h]
  · rw [if_neg e]
theorem setObj_same {i : Nat} {o : Obj} (h : objAt st i = some o) : setObj st i o = st := by
  unfold objAt at h
  rw [lget_eq] at h
  unfold setObj
  rw [lset_eq, set_self h]
theorem setObj_at {i : Nat} {o p : Obj} (h : objAt st i = some o) : objAt (setObj st i p) i = some p := by
  unfold objAt at h ⊢
  rw [lget_eq] at h ⊢
  simp only [setObj, lset_eq]
  rw [List.getElem?_set, if_pos rfl, if_pos (List.getElem?_eq_some_iff.1 h).1]
theorem setObj_twice {i : Nat} {o p : Obj} : setObj (setObj st i o) i p = setObj st i p := by
  simp only [setObj, lset_eq, List.set_set]
theorem splice_cons {o : Obj} {off : Nat} {y : AV} {ys : List AV} (h : off + (ys.length + 1) ≤ o.length) : splice o off (y :: ys) = splice (lset o off y) (off + 1) ys := by
  have hs : ∀ (o xs : List AV) (off m : Nat), off + xs.length ≤ o.length → (splice o off xs)[m]? = if off ≤ m ∧ m < off + xs.length then xs[m - off]? else o[m]? := by
    intro o xs off m h
    unfold splice
    rw [List.getElem?_append, List.getElem?_append]
    have e1 : (o.take off).length = off := by simp; omega
    simp only [List.length_append, e1]
    by_cases h1 : m < off
    · rw [if_pos (by omega), if_pos h1, if_neg (by omega), List.getElem?_take, if_pos h1]
    · by_cases h2 : m < off + xs.length
      · rw [if_pos h2, if_neg h1, if_pos (by omega)]
      · rw [if_neg h2, if_neg (by omega), List.getElem?_drop]
        congr 1; omega
  apply List.ext_getElem?
  intro m
  rw [hs _ _ _ _ (by simpa using h), hs _ _ _ _ (by rw [lset_eq, List.length_set]; omega)]
  simp only [List.length_cons, lset_eq]
  by_cases h1 : m = off
  · subst h1
    rw [if_pos (by omega), if_neg (by omega), Nat.sub_self, List.getElem?_set, if_pos rfl, if_pos (by omega)]
    rfl
  · by_cases h2 : off + 1 ≤ m ∧ m < off + 1 + ys.length
    · rw [if_pos (by omega), if_pos h2, show m - off = (m - (off + 1)) + 1 by omega, List.getElem?_cons_succ]
    · rw [if_neg (by omega), if_neg h2, List.getElem?_set, if_neg (by omega)]
theorem plain_len : ∀ (xs ys : List AV), plainL xs = some ys → ys.length = xs.length
  | [], ys, h => by simp only [plainL] at h; cases h; rfl
  | x :: xs, ys, h => by
    simp only [plainL] at h
    cases hx : x.plain1 with
    | none => rw [hx] at h; cases h
    | some y =>
      cases hu : plainL xs with
      | none => rw [hx, hu] at h; cases h
      | some zs => rw [hx, hu] at h; cases h; simp [plain_len xs zs hu]
theorem ev_frz (i : Nat) (m : M) : ∀ (l ys : List AV) (off : Nat) (st : St) (o : Obj), plainL l = some ys → objAt st i = some o → (∀ j x, l[j]? = some x → o[off + j]? = some x) → off + l.length ≤ o.length →
    ev E (frzM i off l m) st = ev E m (setObj st i (splice o off ys))
  | [], ys, off, st, o, hp, ho, hl, hn => by
    simp only [plainL] at hp
    cases hp
    have : splice o off [] = o := by simp [splice]
    rw [this, setObj_same ho]
    rfl
  | x :: l, ys, off, st, o, hp, ho, hl, hn => by
    simp only [plainL] at hp
    cases hx : x.plain1 with
    | none => rw [hx] at hp; cases hp
    | some y =>
      cases hu : plainL l with
      | none => rw [hx, hu] at hp; cases hp
      | some zs =>
        rw [hx, hu] at hp
        cases hp
        have hlen := plain_len l zs hu
        simp only [List.length_cons] at hn
        have hx0 : o[off]? = some x := by have := hl 0 x rfl; simpa using this
        have same : y = x → ev E (frzM i (off + 1) l m) st = ev E m (setObj st i (splice o off (y :: zs))) := by
          intro e
          subst e
          have h1 : lset o off y = o := by rw [lset_eq]; exact set_self hx0
          rw [splice_cons (by omega), h1]
          exact ev_frz i m l zs (off + 1) st o hu ho (fun j x hj => by have := hl (j + 1) x (by simpa using hj); rw [show off + 1 + j = off + (j + 1) by omega]; exact this) (by omega)
        have key : ∀ z xs, x = .sl z xs .full → ev E (frzM i off (x :: l) m) st = ev E m (setObj st i (splice o off (y :: zs))) := by
          rintro z xs rfl
          cases hx
          simp only [frzM, ev]
          have ha : (Eff.wrC i off (.sl z xs .imm)).app st = setObj st i (lset o off (.sl z xs .imm)) := by
            simp only [Eff.app, homePut, ho]
          rw [ha, ev_frz i m l zs (off + 1) _ _ hu (setObj_at ho) (fun j x hj => by
            have := hl (j + 1) x (by simpa using hj)
            rw [lset_eq, List.getElem?_set, if_neg (by omega), show off + 1 + j = off + (j + 1) by omega]; exact this) (by rw [lset_eq, List.length_set]; omega), setObj_twice, splice_cons (by omega)]
        cases x with
        | sl z xs p =>
          cases p with
          | full => exact key z xs rfl
          | imm => cases hx; exact same rfl
          | ro => cases hx
        | s v => cases hx; exact same rfl
        | rp r xs => cases r <;> cases hx; exact same rfl
        | ptr a b => cases hx; exact same rfl
        | unk => cases hx; exact same rfl
        | _ => cases hx
theorem plain_nofull : ∀ (xs ys : List AV), plainL xs = some ys → anyFull xs = false → ys = xs
  | [], ys, h, _ => by simp only [plainL] at h; cases h; rfl
  | x :: xs, ys, h, hf => by
    simp only [plainL] at h
    cases hx : x.plain1 with
    | none => rw [hx] at h; cases h
    | some y =>
      cases hu : plainL xs with
      | none => rw [hx, hu] at h; cases h
      | some zs =>
        rw [hx, hu] at h
        cases h
        have hxs : anyFull xs = false ∧ y = x := by
          unfold AV.plain1 at hx
          split at hx <;> cases hx <;> simp_all [anyFull]
        rw [hxs.2, plain_nofull xs zs hu hxs.1]
theorem splice_same {o : Obj} {off n : Nat} (h : off + n ≤ o.length) : splice o off (lcut o off n) = o := by
  have e : (lcut o off n).length = n := by simp [lcut]; omega
  unfold splice
  rw [e]
  unfold lcut
  rw [List.append_assoc, ← List.drop_drop, List.take_append_drop, List.take_append_drop]
theorem ev_load (t : Ty) (a : AV) (k : AV → M) : ev E (loadM t a k) st = go2 E k (loadV st t a) := by
  cases a with
  | ptr i off =>
    simp only [loadM, loadV, loadP]
    cases t.isAgg with
    | true =>
      simp only [cond_true, ev]
      cases ho : objAt st i with
      | none => rfl
      | some o =>
        simp only
        cases hp : plainL (lcut o off t.size) with
        | none => rfl
        | some ys =>
          simp only
          cases hb : Nat.ble (off + t.size) o.length with
          | false => rfl
          | true =>
            have hb' : off + t.size ≤ o.length := by simpa using hb
            have hlen : (lcut o off t.size).length = t.size := by simp [lcut]; omega
            simp only [cond_true]
            rw [ev_frz i _ _ ys off st o hp ho (fun j x hj => by
              simp only [lcut] at hj
              rw [List.getElem?_take] at hj
              split at hj
              · rw [List.getElem?_drop] at hj; exact hj
              · cases hj) (by omega)]
            cases hf : anyFull (lcut o off t.size) with
            | true => rfl
            | false =>
              have := plain_nofull _ _ hp hf
              rw [this, splice_same hb', setObj_same ho]
              rfl
    | false =>
      simp only [cond_false, ev, cellAt]
      cases objAt st i with
      | none => rfl
      | some o =>
        simp only
        cases lget o off with
        | none => rfl
        | some x => simp only; cases readCell x i off <;> rfl
  | rp r xs => simp only [loadM, loadV]; cases ofCells t xs <;> rfl
  | ep h i off =>
    simp only [loadM, ev_home, loadV]
    cases homeGet st h with
    | sl z xs p =>
      simp only
      cases lget xs i with
      | none => rfl
      | some x => simp only; cases ofCells t (x.cells.drop off) <;> rfl
    | _ => rfl
  | _ => rfl
theorem ev_killCells (i : Nat) (m : M) : ∀ (n off : Nat) (st : St), ev E (killCellsM i off n m) st = ev E m { st with fr := killCells i off n st.fr }
  | 0, off, st => rfl
  | n + 1, off, st => by
    simp only [killCellsM, ev, killCells]
    rw [ev_killCells i m n (off + 1)]
    simp only [Eff.app, killK_cell]
theorem ev_storeP (t : Ty) (i off : Nat) (v : AV) (m : M) : ev E (storePM t i off v m) st = go1 E m (storeP st t i off v) := by
  simp only [storePM, ev, storeP]
  cases objAt st i with
  | none => rfl
  | some o =>
    simp only
    cases Nat.beq v.cells.length t.size && Nat.ble (off + t.size) o.length && !v.isUnk && allCellOk v.cells with
    | false => rfl
    | true =>
      simp only [cond_true]
      cases ownerIn (lcut o off t.size) with
      | true => simp only [cond_true, ev_killCells, ev, go1]; rfl
      | false => rfl
theorem ev_storeE (t : Ty) (h : Home) (i off : Nat) (v : AV) (m : M) : ev E (storeEM t h i off v m) st = go1 E m (storeE st t h i off v) := by
  simp only [storeEM, ev_home, storeE]
  cases homeGet st h with
  | sl z xs p =>
    cases v.data with
    | none => cases p <;> rfl
    | some y =>
      cases p with
      | full =>
        simp only
        cases lget xs i with
        | none => rfl
        | some x =>
          cases x with
          | agg es =>
            simp only
            cases Nat.beq y.cells.length t.size && Nat.ble (off + t.size) es.length with
            | false => rfl
            | true => simp only [cond_true, ev_homePut]; rfl
          | s c =>
            cases y with
            | s c' =>
              simp only
              cases Nat.beq t.size 1 && Nat.beq off 0 with
              | false => rfl
              | true => simp only [cond_true, ev_homePut]; rfl
            | _ => rfl
          | _ => rfl
      | _ => rfl
  | _ => cases v.data <;> rfl
theorem ev_storeN (t : Ty) (a : Operand) (o : List AV) (v : AV) (m : M) : ev E (storeNM t a o v m) st = go1 E m (storeN st t a o v) := by
  cases a with
  | tmp b => simp only [storeNM, storeN]; cases Nat.beq v.cells.length t.size && Nat.beq o.length t.size && !v.isUnk && allCellOk v.cells <;> rfl
  | _ => rfl
theorem ev_storeS (A : Ar) (i' j' : Nat) (z lo len i off : Nat) (m : M) : ev E (storeSM A (.cell i' j') z lo len i off m) st = go1 E m (storeS A st (.cell i' j') z lo len i off) := by
  simp only [storeSM, ev_home, storeS]
  cases homeGet st (.cell i' j') with
  | sl z' xs p =>
    cases p with
    | full =>
      simp only
      cases Nat.beq lo 0 && A.nle len xs.length with
      | false => rfl
      | true =>
        simp only [cond_true, ev, ev_homePut, go1, Eff.app, killK_cell]
        congr 1
        simp only [homePut, objAt]
        cases lget st.O i' <;> rfl
    | _ => rfl
  | _ => rfl
theorem ev_storeG (A : Ar) (t : Ty) (a x : Operand) (m : M) : ev E (storeGM A t a x m) st = go1 E m (storeG A st t a x) := by
  simp only [storeGM, ev_value, storeG]
  cases valueV A st x with
  | none => rfl
  | some r =>
    obtain ⟨v, st1⟩ := r
    simp only [go2, ev_opd]
    cases opd st1 a with
    | ptr i off => exact ev_storeP ..
    | nb o => exact ev_storeN ..
    | ep h i off => exact ev_storeE ..
    | _ => rfl
theorem ev_store (A : Ar) (t : Ty) (a x : Operand) (m : M) {st1 : St} (h : ev E (storeM A t a x m) st = some st1) : go1 E m (storeV A st t a x) = some st1 := by
  simp only [storeM, ev_opd] at h
  unfold storeV
  cases ha : opd st a with
  | ptr i off =>
    rw [ha] at h
    cases hx : opd st x with
    | al z hm lo len =>
      rw [hx] at h
      simp only at h ⊢
      cases hc : sameCell hm i off && Nat.beq t.size 1 with
      | true =>
        rw [hc] at h
        simp only [cond_true] at h ⊢
        cases hm with
        | slot u => cases h
        | cell i' j' => rw [ev_storeS] at h; exact h
      | false =>
        rw [hc] at h
        simp only [cond_false] at h ⊢
        rw [ev_storeG] at h; exact h
    | _ => rw [hx] at h; simp only [ev_storeG] at h; exact h
  | _ => rw [ha] at h; simp only [ev_storeG] at h; exact h
theorem ev_drop (x : Operand) (m : M) : ev E (dropM x m) st = ev E m (dropSrc st x) := by
  cases x with
  | tmp t =>
    simp only [dropM, ev, dropSrc]
    cases fget st.fr t with
    | sl z xs p => cases p <;> rfl
    | _ => rfl
  | _ => rfl
theorem ev_src (A : Ar) (x : Operand) (u : Ty) (k : Nat → List AV → M) : ev E (srcM A x u k) st = (match srcOf A st x u with | some (y, ys) => ev E (k y ys) st | none => none) := by
  simp only [srcM, ev_opd, srcOf]
  have other : ∀ v : AV, ev E (bif u.isSlice then elemsM A v (fun | some (y, ys) => k y ys | none => .fail) else .fail) st = (match (bif u.isSlice then elems A st v else none) with | some (y, ys) => ev E (k y ys) st | none => none) := by
    intro v
    cases u.isSlice with
    | false => rfl
    | true =>
      simp only [cond_true, ev_elems]
      cases elems A st v with
      | none => rfl
      | some r => rfl
  cases opd st x with
  | s v =>
    cases v with
    | string s => simp only; cases u.isStr <;> rfl
    | _ => exact other _
  | _ => exact other _
theorem ev_append (A : Ar) (e : Ty) (base arg : Operand) (u : Ty) (k : AV → M) : ev E (appendM A e base arg u k) st = go2 E k (appendV A st e base arg u) := by
  simp only [appendM, ev_src, appendV]
  cases srcOf A st arg u with
  | none => rfl
  | some r =>
    obtain ⟨y, ys⟩ := r
    simp only [ev_drop, ev_opd]
    cases opd (dropSrc st arg) base with
    | sl z xs p =>
      cases p with
      | full =>
        simp only
        cases Nat.beq z e.size && Nat.beq y e.size && A.fit (xs.length + ys.length) e.bytes && Nat.ble 1 e.bytes with
        | false => rfl
        | true => simp only [cond_true, ev_drop]; rfl
      | _ => rfl
    | al z h lo len =>
      simp only [ev_home]
      cases homeGet (dropSrc st arg) h with
      | sl z' xs p =>
        cases p with
        | full =>
          simp only
          cases Nat.beq z' e.size && Nat.beq y e.size && Nat.beq lo 0 && A.neq len xs.length && A.fit (xs.length + ys.length) e.bytes && Nat.ble 1 e.bytes with
          | false => rfl
          | true => simp only [cond_true, ev_homePut]; rfl
        | _ => rfl
      | _ => rfl
    | _ => rfl
end
end Go.Va
