/- The verified abstract interpreter, a part of it: no statement of its own. -/
import Derived.Test.YtmklimlepgiffabVa12
set_option linter.unusedVariables false
set_option linter.unusedSimpArgs false
set_option linter.unusedVariables false
namespace Go.Va
section
variable {n : Nat} {c : Cx} {γ : Gh} {st : St} {a : Act} {w : World} {o : Oper} {env : Env}

theorem val_same {y : AV} {v : Value} (hi : Inv c γ st a w) (hr : (execOp a.eval o).run c.P w = .ok (.value v) w) (hf : Flow γ st a w 0 y v) : Val c γ st st a w o y :=
  ⟨v, w, γ, hr, hi, .refl .., hf⟩
theorem val_move (hi : Inv c γ st a w) {x : Operand} {y : AV} {st1 : St} (ho : o.op = .move x ∨ o.op = .assign x) (h : copyV st x = some (y, st1)) : Val c γ st st1 a w o y := by
  obtain ⟨γ1, d, f⟩ := copyV_ok 0 hi h
  exact ⟨a.eval x, w, γ1, by rcases ho with ho | ho <;> simp [execOp, ho], d.inv, d.ext, f⟩
theorem val_pick (hi : Inv c γ st a w) {q x z : Operand} {y : AV} {st1 : St} (ho : o.op = .pick q x z) (h : stepV env st o.op = some (y, st1)) : Val c γ st st1 a w o y := by
  rw [ho] at h
  simp only [stepV] at h
  cases hb : boolOf (opd st q) with
  | none => rw [hb] at h; cases h
  | some b =>
    rw [hb] at h
    have hq := opd_bool hi hb
    cases b with
    | true =>
      obtain ⟨γ1, d, f⟩ := copyV_ok 0 hi h
      exact ⟨a.eval x, w, γ1, by simp [execOp, ho, hq, asBool], d.inv, d.ext, f⟩
    | false =>
      obtain ⟨γ1, d, f⟩ := copyV_ok 0 hi h
      exact ⟨a.eval z, w, γ1, by simp [execOp, ho, hq, asBool], d.inv, d.ext, f⟩

theorem arith_ok {op : BinOp} {k : IntKind} {x y : Int} {r : AV} (P : Program) (w : World) (t : TypeId) (h : arith realAr op k x y = some r) :
    ∃ v, (binOp op t (.int k x) (.int k y)).run P w = .ok v w ∧ r = .s v ∧ one v := by
  have hdiv : ∀ (y : Int), realAr.eq y 0 = false → ¬ y = 0 := fun y h e => by subst e; simp [realAr] at h
  cases op <;> simp only [arith] at h
  case add => cases h; exact ⟨.int k (k.wrap (x + y)), by simp [binOp, Op.intArith], rfl, trivial⟩
  case sub => cases h; exact ⟨.int k (k.wrap (x - y)), by simp [binOp, Op.intArith], rfl, trivial⟩
  case mul => cases h; exact ⟨.int k (k.wrap (x * y)), by simp [binOp, Op.intArith], rfl, trivial⟩
  case quo =>
    cases hz : realAr.eq y 0 with
    | true => rw [hz] at h; cases h
    | false => rw [hz] at h; cases h; exact ⟨.int k (k.wrap (x.tdiv y)), by simp [binOp, Op.intDiv, hdiv y hz], rfl, trivial⟩
  case rem =>
    cases hz : realAr.eq y 0 with
    | true => rw [hz] at h; cases h
    | false => rw [hz] at h; cases h; exact ⟨.int k (x.tmod y), by simp [binOp, Op.intDiv, hdiv y hz], rfl, trivial⟩
  case eql => cases h; exact ⟨.bool (x == y), by simp [binOp, Op.intCmp], rfl, trivial⟩
  case neq => cases h; exact ⟨.bool (x != y), by simp [binOp, Op.intCmp], rfl, trivial⟩
  case lss => cases h; exact ⟨.bool (decide (x < y)), by simp [binOp, Op.intCmp], rfl, trivial⟩
  case leq => cases h; exact ⟨.bool (decide (x ≤ y)), by simp [binOp, Op.intCmp], rfl, trivial⟩
  case gtr => cases h; exact ⟨.bool (decide (x > y)), by simp [binOp, Op.intCmp], rfl, trivial⟩
  case geq => cases h; exact ⟨.bool (decide (x ≥ y)), by simp [binOp, Op.intCmp], rfl, trivial⟩
  all_goals cases h
theorem strOp_ok {op : BinOp} {x y : ByteArray} {r : AV} (P : Program) (w : World) (t : TypeId) (h : strOp realAr op x y = some r) :
    ∃ v, (binOp op t (.string x) (.string y)).run P w = .ok v w ∧ r = .s v ∧ one v := by
  cases op <;> simp only [strOp] at h
  case add =>
    cases hz : realAr.nle (realAr.siz x + realAr.siz y) 9223372036854775807 with
    | false => rw [hz] at h; cases h
    | true =>
      rw [hz] at h
      cases h
      have hle : x.size + y.size ≤ 9223372036854775807 := by simpa [realAr] using hz
      refine ⟨.string (x ++ y), ?_, rfl, trivial⟩
      have : ¬ (((x.size + y.size : Nat) : Int) > IntKind.i64.max) := by rw [IntKind.max_i64]; omega
      simp only [binOp, Op.stringOp, if_neg this, Sem.run_pure]
  case eql => cases h; exact ⟨.bool (x.data.toList == y.data.toList), by simp [binOp, Op.stringOp, ByteArray.toList_eq], rfl, trivial⟩
  case neq => cases h; exact ⟨.bool (!(x.data.toList == y.data.toList)), by simp [binOp, Op.stringOp, ByteArray.toList_eq], rfl, trivial⟩
  case lss => cases h; exact ⟨.bool (Op.bytesLess x.data.toList y.data.toList), by simp [binOp, Op.stringOp, ByteArray.toList_eq], rfl, trivial⟩
  case gtr => cases h; exact ⟨.bool (!(Op.bytesLess x.data.toList y.data.toList || x.data.toList == y.data.toList)), by simp [binOp, Op.stringOp, ByteArray.toList_eq], rfl, trivial⟩
  all_goals cases h
/-- two scalars -/
theorem eqv1_ok {k : TK} {x y : AV} {r : Bool} {u v : Value} {l l' : Loc} (h : eqv1 realAr k x y = some r) (hx : R γ w l x u) (hy : R γ w l' y v) (P : Program) (w' : World) (d : Nat) (t : TypeId) (td : TypeDesc)
    (hu : P.underlying t = some td) (hk : tkOk (some td) k = true) : (Op.equalIn (d + 1) t u v).run P w' = .ok r w' := by
  unfold eqv1 at h
  split at h
  · cases h
    simp only [R] at hx hy
    obtain ⟨rfl, _⟩ := hx
    obtain ⟨rfl, _⟩ := hy
    cases td <;> simp [tkOk] at hk
    exact run_equalIn_bool' w' d t _ _ hu
  · rename_i k1 j a k' b
    cases hj : kindEq j k' with
    | false => rw [hj] at h; cases h
    | true =>
      rw [hj] at h
      cases h
      simp only [R] at hx hy
      obtain ⟨rfl, _⟩ := hx
      obtain ⟨rfl, _⟩ := hy
      rw [kindEq_t hj]
      cases td <;> simp [tkOk] at hk
      simp [Op.equalIn, run_underlying hu, realAr]
  · cases h
    simp only [R] at hx hy
    obtain ⟨rfl, _⟩ := hx
    obtain ⟨rfl, _⟩ := hy
    cases td <;> simp [tkOk] at hk
    have hq := fun (x y : ByteArray) => run_equalIn_string w' d t x y hu; simp only [ByteArray.toList_eq] at hq; exact hq _ _
  · cases h
theorem eqv1_one {k : TK} {x y : AV} {r : Bool} (A : Ar) (h : eqv1 A k x y = some r) : ∃ u v, x = .s u ∧ y = .s v := by
  unfold eqv1 at h
  split at h <;> first | exact ⟨_, _, rfl, rfl⟩ | cases h
theorem Rl_get' {xs : List AV} {l : Loc} {vs : List Value} (h : Rl γ w l n xs vs) (j : Nat) (v : Value) (e : xs[j]? = some (.s v)) : vs[j]? = some v := by
  obtain ⟨u, e1, e2⟩ := Rl_get xs h j _ e
  simp only [R] at e2
  rw [e1, e2.1]
theorem eqvL_ok (P : Program) (w' : World) (d : Nat) {us vs : Array Value} : ∀ (ks : List TK) (fs : List Field) (xs ys : List AV) (m : Nat) (r : Bool), eqvL realAr ks xs ys = some r → sChk P m ks fs = true →
    (∀ j v, xs[j]? = some (.s v) → us[m + j]? = some v) → (∀ j v, ys[j]? = some (.s v) → vs[m + j]? = some v) → (Op.eqFields (d + 1) us vs fs).run P w' = .ok r w'
  | [], [], [], [], m, r, h, _, _, _ => by simp only [eqvL] at h; cases h; simp [Op.eqFields]
  | [], _, _ :: _, _, _, _, h, _, _, _ => by simp [eqvL] at h
  | [], _, [], _ :: _, _, _, h, _, _, _ => by simp [eqvL] at h
  | _ :: _, _, [], _, _, _, h, _, _, _ => by simp [eqvL] at h
  | _ :: _, _, _ :: _, [], _, _, h, _, _, _ => by simp [eqvL] at h
  | [], _ :: _, _, _, _, _, _, hs, _, _ => by simp [sChk] at hs
  | _ :: _, [], _, _, _, _, _, hs, _, _ => by simp [sChk] at hs
  | k :: ks, f :: fs, x :: xs, y :: ys, m, r, h, hs, hx, hy => by
    simp only [eqvL] at h
    cases h1 : eqv1 realAr k x y with
    | none => rw [h1] at h; cases h
    | some r1 =>
      cases h2 : eqvL realAr ks xs ys with
      | none => rw [h1, h2] at h; cases h
      | some r2 =>
        rw [h1, h2] at h
        cases h
        simp only [sChk, Bool.and_eq_true, bne_iff_ne, beq_iff_eq] at hs
        obtain ⟨⟨⟨s1, s2⟩, s3⟩, s4⟩ := hs
        obtain ⟨u, v, rfl, rfl⟩ := eqv1_one _ h1
        have e1 := hx 0 u (by simp)
        have e2 := hy 0 v (by simp)
        cases hu : P.underlying f.type with
        | none => rw [hu] at s3; simp [tkOk] at s3
        | some td =>
          rw [hu] at s3
          have hagg : (isAgg f.type).run P w' = .ok false w' := by
            simp only [isAgg, Sem.run_bind, run_underlying hu, Result.andThen_ok]
            cases td <;> simp [tkOk] at s3 <;> rfl
          have hp : ∀ (zs : Array Value) (z : Value), zs[m]? = some z → (part f.type zs f.offset).run P w' = .ok z w' := by
            intro zs z hz
            simp only [part, Sem.run_bind, hagg, Result.andThen_ok, Bool.false_eq_true, if_false, s2, hz, Sem.run_pure]
          have heq := eqv1_ok (γ := ⟨fun _ => .other, fun _ => none⟩) (w := w') (l := lim 0) (l' := lim 0) h1 (u := u) (v := v)
          have ih := eqvL_ok P w' d ks fs xs ys (m + 1) r2 h2 s4 (fun j v e => by have := hx (j + 1) v (by simpa using e); rwa [show m + (j + 1) = m + 1 + j by omega] at this)
            (fun j v e => by have := hy (j + 1) v (by simpa using e); rwa [show m + (j + 1) = m + 1 + j by omega] at this)
          have hu1 : one u ∧ one v := by
            unfold eqv1 at h1
            split at h1 <;> first | (simp_all [one]; done) | cases h1
          have he := heq (by simp only [R]; exact ⟨trivial, hu1.1⟩) (by simp only [R]; exact ⟨trivial, hu1.2⟩) P w' d f.type td hu s3
          simp only [Op.eqFields, ne_eq, s1, not_false_eq_true, if_true, Sem.run_bind, hp us u (by simpa using e1), hp vs v (by simpa using e2), Result.andThen_ok, he]
          cases r1 with
          | true => simpa using ih
          | false => simp
theorem equal_of {P : Program} {w : World} {t : TypeId} {x y : Value} {r : Bool} (h : ∀ d, (Op.equalIn (d + 2) t x y).run P w = .ok r w) : (Op.equal t x y).run P w = .ok r w := h 9998
section
variable {P : Program} {w : World} {t : TypeId}
theorem eq_nn {ms} (d : Nat) (hu : P.underlying t = some (.interface ms)) : (Op.equalIn (d + 1) t .nilIface .nilIface).run P w = .ok true w := by
  rw [Op.equalIn]; simp only [Sem.run_bind, run_underlying hu, Result.andThen_ok, Sem.run_pure]
theorem eq_ni {ms} (d : Nat) {u : TypeId} {x : Value} (hu : P.underlying t = some (.interface ms)) : (Op.equalIn (d + 1) t .nilIface (.iface u x)).run P w = .ok false w := by
  rw [Op.equalIn]; simp only [Sem.run_bind, run_underlying hu, Result.andThen_ok, Sem.run_pure]
theorem eq_in {ms} (d : Nat) {u : TypeId} {x : Value} (hu : P.underlying t = some (.interface ms)) : (Op.equalIn (d + 1) t (.iface u x) .nilIface).run P w = .ok false w := by
  rw [Op.equalIn]; simp only [Sem.run_bind, run_underlying hu, Result.andThen_ok, Sem.run_pure]
theorem eq_id {ms} (d : Nat) {u u' : TypeId} {x x' : Value} (hu : P.underlying t = some (.interface ms)) (hne : u ≠ u') : (Op.equalIn (d + 1) t (.iface u x) (.iface u' x')).run P w = .ok false w := by
  rw [Op.equalIn]; simp only [Sem.run_bind, run_underlying hu, Result.andThen_ok, ne_eq, hne, not_false_eq_true, if_true, Sem.run_pure]
theorem eq_pn {e} (d : Nat) {p : Addr} (hu : P.underlying t = some (.pointer e)) : (Op.equalIn (d + 1) t (.pointer (some p)) (.pointer none)).run P w = .ok false w := by
  rw [Op.equalIn]; simp only [Sem.run_bind, run_underlying hu, Result.andThen_ok, Sem.run_pure]
theorem eq_np {e} (d : Nat) {p : Addr} (hu : P.underlying t = some (.pointer e)) : (Op.equalIn (d + 1) t (.pointer none) (.pointer (some p))).run P w = .ok false w := by
  rw [Op.equalIn]; simp only [Sem.run_bind, run_underlying hu, Result.andThen_ok, Sem.run_pure, Option.isNone]
theorem eq_pp0 {e} (d : Nat) (hu : P.underlying t = some (.pointer e)) : (Op.equalIn (d + 1) t (.pointer none) (.pointer none)).run P w = .ok true w := by
  rw [Op.equalIn]; simp only [Sem.run_bind, run_underlying hu, Result.andThen_ok, Sem.run_pure, Option.isNone]
theorem eq_sn {e} (d : Nat) {p : Addr} {n m : Nat} (hu : P.underlying t = some (.slice e)) : (Op.equalIn (d + 1) t (.slice (some p) n m) (.slice none 0 0)).run P w = .ok false w := by
  rw [Op.equalIn]; simp only [Sem.run_bind, run_underlying hu, Result.andThen_ok, Sem.run_pure]
end
theorem run_equalIn_held {P : Program} {w : World} {t t1 : TypeId} {ms} {i : TypeInfo} {x y : Value} (d : Nat) (hu : P.underlying t = some (.interface ms)) (hi : P.info? t1 = some i) (hc : i.comparable = true) :
    (Op.equalIn (d + 1) t (.iface t1 x) (.iface t1 y)).run P w = (Op.equalIn d t1 x y).run P w := by
  rw [Op.equalIn]
  simp only [Sem.run_bind, run_underlying hu, Result.andThen_ok, ne_eq, not_true, if_false, typeInfo, run_program, hi, Sem.run_pure, hc, Bool.not_true, Bool.false_eq_true]
def cmpVal : Value → Prop
  | .int .. | .string _ | .float .. | .complex .. => False
  | _ => True
theorem run_eql_of {P : Program} {w : World} {t : TypeId} {x y : Value} {r : Bool} (hx : cmpVal x) (h : (Op.equal t x y).run P w = .ok r w) : (binOp .eql t x y).run P w = .ok (.bool r) w := by
  cases x <;> simp only [cmpVal] at hx <;> simp only [binOp, Sem.run_bind, h, Result.andThen_ok, Sem.run_pure]
theorem run_neq_of {P : Program} {w : World} {t : TypeId} {x y : Value} {r : Bool} (hx : cmpVal x) (h : (Op.equal t x y).run P w = .ok r w) : (binOp .neq t x y).run P w = .ok (.bool (!r)) w := by
  cases x <;> simp only [cmpVal] at hx <;> simp only [binOp, Sem.run_bind, h, Result.andThen_ok, Sem.run_pure]
theorem cmpV_ok {E : EnvOk c.P env} (hi : Inv c γ st a w) {t : TypeId} {ty : Ty} (ht : env.ty t = some ty) {x y : Operand} {r : Bool} (h : cmpV realAr ty env.ty x y (opd st x) (opd st y) = some r) :
    (∀ op, (eqGuard op t x y (a.eval x) (a.eval y)).run c.P w = .ok () w) ∧ (Op.equal t (a.eval x) (a.eval y)).run c.P w = .ok r w ∧
      cmpVal (a.eval x) := by
  have T := E.tyOk ht
  unfold cmpV at h
  split at h
  · rename_i hx hy
    obtain ⟨ex, _⟩ := opd_s hi hx
    obtain ⟨ey, _⟩ := opd_s hi hy
    rw [ex, ey]
    cases hb : ty.isIface && (isConstO x || isConstO y) with
    | false => rw [hb] at h; cases h
    | true =>
      rw [hb] at h
      cases h
      simp only [Bool.and_eq_true, Bool.or_eq_true] at hb
      obtain ⟨hb, hk⟩ := hb
      obtain ⟨ms, hu⟩ := T.kiface hb
      refine ⟨fun op => ?_, equal_of (fun d => eq_nn _ hu), trivial⟩
      rcases hk with hk | hk
      · cases x <;> simp [isConstO] at hk
        cases op <;> simp [eqGuard]
      · cases y <;> simp [isConstO] at hk
        cases op <;> simp [eqGuard]
  · unfold eqvV at h
    split at h
    · rename_i p q hx hy
      obtain ⟨ex, _⟩ := opd_s hi hx
      obtain ⟨ey, _⟩ := opd_s hi hy
      rw [ex, ey]
      cases hb : ty.isBool with
      | false => rw [hb] at h; cases h
      | true =>
        rw [hb] at h
        cases h
        exact ⟨fun op => by rw [eqGuard_at_bool]; rfl, equal_of (fun d => run_equalIn_bool' w _ t _ _ (T.kbool hb)), trivial⟩
    · rename_i xs ys hx hy
      split at h
      · cases h
      · rename_i k ks hk
        have hfr : freeL xs = true ∧ freeL ys = true := by
          have : ∀ (ks : List TK) (xs ys : List AV) (r : Bool), eqvL realAr ks xs ys = some r → freeL xs = true ∧ freeL ys = true := by
            intro ks
            induction ks with
            | nil =>
              intro xs ys r h
              cases xs <;> cases ys <;> simp [eqvL] at h
              simp [freeL]
            | cons k ks ih =>
              intro xs ys r h
              cases xs with
              | nil => simp [eqvL] at h
              | cons x xs =>
                cases ys with
                | nil => simp [eqvL] at h
                | cons y ys =>
                  simp only [eqvL] at h
                  cases h1 : eqv1 realAr k x y with
                  | none => rw [h1] at h; cases h
                  | some r1 =>
                    cases h2 : eqvL realAr ks xs ys with
                    | none => rw [h1, h2] at h; cases h
                    | some r2 =>
                      obtain ⟨u, v, rfl, rfl⟩ := eqv1_one _ h1
                      have := ih xs ys r2 h2
                      simp [freeL, AV.free, this]
          exact this _ _ _ _ h
        have rx := opd_ok (l := lim 0) hi x (by rw [hx]; simp [AV.free, hfr.1])
        have ry := opd_ok (l := lim 0) hi y (by rw [hy]; simp [AV.free, hfr.2])
        rw [hx] at rx
        rw [hy] at ry
        simp only [R] at rx ry
        obtain ⟨us, ex, _, lx⟩ := rx
        obtain ⟨vs, ey, _, ly⟩ := ry
        rw [ex, ey]
        have hne : TK.nil ty.eq = false := by rw [hk]; rfl
        obtain ⟨i, _, _, _, _, hag, _⟩ := T.info
        obtain ⟨fs, hu, _, hs⟩ := T.kstruct (hag hne)
        obtain ⟨s1, s2, s3⟩ := hs hne
        have hf : c.P.fieldsOf t = fs := by simp [Program.fieldsOf, hu]
        rw [← hk] at h
        refine ⟨fun op => run_eqGuard_agg w op t x y us vs s3, ?_, trivial⟩
        refine equal_of (fun d => ?_)
        rw [run_equalIn_struct w (d + 1) t us vs (by rw [hf]; exact hu) s2, hf]
        exact eqvL_ok c.P w d ty.eq fs.toList xs ys 0 r h s1 (fun j v e => by simpa using Rl_get' lx j v e) (fun j v e => by simpa using Rl_get' ly j v e)
    · rename_i d u hx hy
      obtain ⟨ex, _⟩ := opd_s hi hx
      obtain ⟨ey, _⟩ := opd_s hi hy
      rw [ex, ey]
      cases hb : ty.isIface with
      | false => rw [hb] at h; cases h
      | true =>
        rw [hb] at h
        cases h
        obtain ⟨ms, hu⟩ := T.kiface hb
        exact ⟨fun op => by rw [eqGuard_nil_iface]; rfl, equal_of (fun d => eq_ni _ hu), trivial⟩
    · rename_i d u hx hy
      obtain ⟨ex, _⟩ := opd_s hi hx
      obtain ⟨ey, _⟩ := opd_s hi hy
      rw [ex, ey]
      cases hb : ty.isIface with
      | false => rw [hb] at h; cases h
      | true =>
        rw [hb] at h
        cases h
        obtain ⟨ms, hu⟩ := T.kiface hb
        exact ⟨fun op => by rw [eqGuard_at_iface]; rfl, equal_of (fun d => eq_in _ hu), trivial⟩
    · rename_i t1 j p t2 k q hx hy
      obtain ⟨ex, _⟩ := opd_s hi hx
      obtain ⟨ey, _⟩ := opd_s hi hy
      rw [ex, ey]
      cases hb : ty.isIface with
      | false => rw [hb] at h; cases h
      | true =>
        rw [hb] at h
        obtain ⟨ms, hu⟩ := T.kiface hb
        refine ⟨fun op => by rw [eqGuard_at_iface]; rfl, ?_, trivial⟩
        cases he : Nat.beq t1 t2 with
        | false =>
          rw [he] at h
          cases h
          have : t1 ≠ t2 := fun e => by subst e; rw [Nat.beq_refl] at he; cases he
          exact equal_of (fun d => eq_id _ hu this)
        | true =>
          rw [he] at h
          have := beq_t he
          subst this
          simp only [cond_true] at h
          cases hd : env.ty t1 with
          | none => rw [hd] at h; cases h
          | some dy =>
            rw [hd] at h
            simp only at h
            cases hj : dy.isInt && kindEq j k with
            | false => rw [hj] at h; cases h
            | true =>
              rw [hj] at h
              cases h
              simp only [Bool.and_eq_true] at hj
              have T1 := E.tyOk hd
              have hkk : ∃ k, dy.k = .int k := by
                have := hj.1
                unfold Ty.isInt at this
                split at this
                · exact ⟨_, ‹_›⟩
                · cases this
              obtain ⟨k1, hk1⟩ := hkk
              obtain ⟨i, hi1, _, _, hc, _, _⟩ := T1.info
              rw [kindEq_t hj.2]
              exact equal_of (fun d => by rw [run_equalIn_held (d + 1) hu hi1 (hc k1 hk1)]; exact run_equalIn_int w d t1 k k1 _ _ (T1.kint hk1))
    · rename_i i off hx hy
      obtain ⟨ey, _⟩ := opd_s hi hy
      have rx := opd_ok (l := lim 0) hi x (by rw [hx]; rfl)
      rw [hx] at rx
      simp only [R] at rx
      obtain ⟨b, _, ex⟩ := rx
      rw [ex, ey]
      cases hb : ty.isPtr with
      | false => rw [hb] at h; cases h
      | true =>
        rw [hb] at h
        cases h
        obtain ⟨e, hu⟩ := T.kptr hb
        exact ⟨fun op => by rw [eqGuard_at_pointer]; rfl, equal_of (fun d => eq_pn _ hu), trivial⟩
    · rename_i i off hx hy
      obtain ⟨ex, _⟩ := opd_s hi hx
      have ry := opd_ok (l := lim 0) hi y (by rw [hy]; rfl)
      rw [hy] at ry
      simp only [R] at ry
      obtain ⟨b, _, ey⟩ := ry
      rw [ex, ey]
      cases hb : ty.isPtr with
      | false => rw [hb] at h; cases h
      | true =>
        rw [hb] at h
        cases h
        obtain ⟨e, hu⟩ := T.kptr hb
        exact ⟨fun op => by rw [eqGuard_at_pointer]; rfl, equal_of (fun d => eq_np _ hu), trivial⟩
    · rename_i rr xs hx hy
      obtain ⟨ey, _⟩ := opd_s hi hy
      have rx := opd_ok (l := lim 0) hi x (by rw [hx]; rfl)
      rw [hx] at rx
      simp only [R] at rx
      have : ∃ b off, a.eval x = .pointer (some ⟨b, off, none⟩) := by
        cases rr <;> simp only [V] at rx <;> obtain ⟨b, off, o, vs, e, _⟩ := rx <;> exact ⟨b, off, e⟩
      obtain ⟨b, off, ex⟩ := this
      rw [ex, ey]
      cases hb : ty.isPtr with
      | false => rw [hb] at h; cases h
      | true =>
        rw [hb] at h
        cases h
        obtain ⟨e, hu⟩ := T.kptr hb
        exact ⟨fun op => by rw [eqGuard_at_pointer]; rfl, equal_of (fun d => eq_pn _ hu), trivial⟩
    · rename_i rr xs hx hy
      obtain ⟨ex, _⟩ := opd_s hi hx
      have ry := opd_ok (l := lim 0) hi y (by rw [hy]; rfl)
      rw [hy] at ry
      simp only [R] at ry
      have : ∃ b off, a.eval y = .pointer (some ⟨b, off, none⟩) := by
        cases rr <;> simp only [V] at ry <;> obtain ⟨b, off, o, vs, e, _⟩ := ry <;> exact ⟨b, off, e⟩
      obtain ⟨b, off, ey⟩ := this
      rw [ex, ey]
      cases hb : ty.isPtr with
      | false => rw [hb] at h; cases h
      | true =>
        rw [hb] at h
        cases h
        obtain ⟨e, hu⟩ := T.kptr hb
        exact ⟨fun op => by rw [eqGuard_at_pointer]; rfl, equal_of (fun d => eq_np _ hu), trivial⟩
    · rename_i hx hy
      obtain ⟨ex, _⟩ := opd_s hi hx
      obtain ⟨ey, _⟩ := opd_s hi hy
      rw [ex, ey]
      cases hb : ty.isPtr with
      | false => rw [hb] at h; cases h
      | true =>
        rw [hb] at h
        cases h
        obtain ⟨e, hu⟩ := T.kptr hb
        exact ⟨fun op => by rw [eqGuard_at_pointer]; rfl, equal_of (fun d => eq_pp0 _ hu), trivial⟩
    · cases h
end
end Go.Va
