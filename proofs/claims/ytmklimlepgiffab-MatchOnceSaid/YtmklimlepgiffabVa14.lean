/- The verified abstract interpreter, a part of it: no statement of its own. -/
import Derived.Test.YtmklimlepgiffabVa13
set_option linter.unusedVariables false
set_option linter.unusedSimpArgs false
set_option linter.unusedVariables false
namespace Go.Va
section
variable {c : Cx} {γ : Gh} {st : St} {a : Act} {w : World} {o : Oper} {env : Env}

theorem val_bin (E : EnvOk c.P env) (hi : Inv c γ st a w) {op : BinOp} {t u : TypeId} {x y : Operand} {r : AV} (ho : o.op = .binOp op t x y u) (h : binO env.A env.ty op t x y (opd st x) (opd st y) = some r) :
    ∃ v, (execOp a.eval o).run c.P w = .ok (.value v) w ∧ r = .s v ∧ one v := by
  rw [E.A] at h
  suffices ∃ v, (do eqGuard op t x y (a.eval x) (a.eval y); binOp op t (a.eval x) (a.eval y) : Sem Value).run c.P w = .ok v w ∧ r = .s v ∧ one v by
    obtain ⟨v, h1, h2⟩ := this
    refine ⟨v, ?_, h2⟩
    simp only [execOp, ho]
    simp only [Sem.run_bind, h1, Result.andThen_ok, Sem.run_pure]
  unfold binO at h
  cases hb : binV realAr op (opd st x) (opd st y) with
  | some v =>
    rw [hb] at h
    cases h
    unfold binV at hb
    split at hb
    · rename_i j p k q hx hy
      have ex := (opd_s hi hx).1
      have ey := (opd_s hi hy).1
      rw [ex, ey]
      split at hb
      · unfold shrV at hb
        split at hb
        · rename_i n
          cases hj : Nat.blt n 64 && kindEq j .u64 with
          | false => rw [hj] at hb; cases hb
          | true =>
            rw [hj] at hb
            cases hb
            rw [Bool.and_eq_true] at hj
            have hn := blt_t hj.1
            have := kindEq_t hj.2
            subst this
            refine ⟨.int .u64 (p / 2 ^ n), ?_, rfl, trivial⟩
            have h2 : (0 : Int) ≤ 2 ^ n := Int.le_of_lt (Int.pow_pos (by decide))
            have hm : min n IntKind.u64.bits = n := by
              have : IntKind.u64.bits = 64 := rfl
              omega
            rw [eqGuard_at_int]
            simp [binOp, Op.shift, hm, Int.fdiv_eq_ediv_of_nonneg _ h2]
            intro h; omega
        · cases hb
      · cases hj : kindEq j k with
        | false => rw [hj] at hb; cases hb
        | true =>
          rw [hj] at hb
          rw [kindEq_t hj]
          obtain ⟨v, h1, h2⟩ := arith_ok c.P w t hb
          exact ⟨v, by rw [eqGuard_at_int]; simpa using h1, h2⟩
    · rename_i p q hx hy
      obtain ⟨ex, _⟩ := opd_s hi hx
      obtain ⟨ey, _⟩ := opd_s hi hy
      rw [ex, ey]
      obtain ⟨v, h1, h2⟩ := strOp_ok c.P w t hb
      exact ⟨v, by rw [eqGuard_at_string]; simpa using h1, h2⟩
    · cases hb
  | none =>
    rw [hb] at h
    simp only at h
    cases ht : env.ty t with
    | none => rw [ht] at h; cases h
    | some ty =>
      rw [ht] at h
      simp only at h
      have T := E.tyOk ht
      have key : ∀ q, (bif isNilConst y then nilCmp ty (opd st x) else cmpV realAr ty env.ty x y (opd st x) (opd st y)) = some q →
          (eqGuard op t x y (a.eval x) (a.eval y)).run c.P w = .ok () w ∧ (Op.equal t (a.eval x) (a.eval y)).run c.P w = .ok q w ∧ cmpVal (a.eval x) := by
        intro q hq
        cases hn : isNilConst y with
        | false =>
          rw [hn] at hq
          obtain ⟨g, r⟩ := cmpV_ok (E := E) hi ht hq
          exact ⟨g op, r⟩
        | true =>
          rw [hn] at hq
          simp only [cond_true] at hq
          have ey : a.eval y = .slice none 0 0 := by
            unfold isNilConst at hn
            split at hn
            · rfl
            · cases hn
          have fin : ∀ {p n m}, a.eval x = .slice (some p) n m → ty.isSlice = true → q = false → _ := fun {p n m} (ex : a.eval x = .slice (some p) n m) (hs : ty.isSlice = true) (hq : q = false) =>
            (show (eqGuard op t x y (a.eval x) (a.eval y)).run c.P w = .ok () w ∧ (Op.equal t (a.eval x) (a.eval y)).run c.P w = .ok q w ∧ cmpVal (a.eval x) by
              rw [ex, ey, hq]
              exact ⟨by rw [eqGuard_at_slice]; rfl, equal_of (fun d => eq_sn _ (T.kslice hs)), trivial⟩)
          unfold nilCmp at hq
          split at hq
          · rename_i z e es p hx
            cases hs : ty.isSlice with
            | false => rw [hs] at hq; cases hq
            | true =>
              rw [hs] at hq
              cases hq
              have hsl : ∃ p n m, a.eval x = .slice (some p) n m := by
                cases x with
                | tmp t =>
                  have hv := hi.fm.val t
                  rw [show fget st.fr t = _ from hx] at hv
                  cases p with
                  | imm =>
                    simp only [R, V, D] at hv
                    obtain ⟨p, cap, e1, _, hh⟩ := hv
                    rcases hh with hh | ⟨b, off, o, e2, _⟩
                    · cases hh
                    · simp only [List.cons.injEq, and_true] at e1
                      rw [e2] at e1
                      exact ⟨_, _, _, e1⟩
                  | ro =>
                    simp only [R, V] at hv
                    obtain ⟨p, cap, e1, _, hh⟩ := hv
                    rcases hh with hh | ⟨b, off, o, e2, _⟩
                    · cases hh
                    · rw [e2] at e1
                      exact ⟨_, _, _, e1⟩
                  | full =>
                    simp only [R] at hv
                    rcases hv with ⟨hh, _⟩ | ⟨b, cap, cc, el, e1, _⟩
                    · cases hh
                    · exact ⟨_, _, _, e1⟩
                | const v =>
                  simp only [opd] at hx
                  unfold constV at hx
                  split at hx <;> cases hx
                | func f => cases hx
                | global g => cases hx
              obtain ⟨p, n, m, ex⟩ := hsl
              exact fin ex hs rfl
          · rename_i z hm lo n hx
            cases hs : ty.isSlice with
            | false => rw [hs] at hq; cases hq
            | true =>
              rw [hs] at hq
              cases hq
              have hal := (flow_opd hi x 0 (by rw [hx]; rfl)).al _ _ _ _ hx
              obtain ⟨p, cap, e1, _, e2⟩ := hal.2.1
              obtain ⟨b, off, rfl⟩ := e2 (by omega)
              exact fin e1 hs rfl
          · cases hq
      cases op <;> simp only at h <;> try (cases h; done)
      case eql =>
        cases hq : (bif isNilConst y then nilCmp ty (opd st x) else cmpV realAr ty env.ty x y (opd st x) (opd st y)) with
        | none => rw [hq] at h; cases h
        | some q =>
          rw [hq] at h
          cases h
          obtain ⟨g1, g2, g3⟩ := key q hq
          exact ⟨_, by simp only [Sem.run_bind, g1, Result.andThen_ok]; exact run_eql_of g3 g2, rfl, trivial⟩
      case neq =>
        cases hq : (bif isNilConst y then nilCmp ty (opd st x) else cmpV realAr ty env.ty x y (opd st x) (opd st y)) with
        | none => rw [hq] at h; cases h
        | some q =>
          rw [hq] at h
          cases h
          obtain ⟨g1, g2, g3⟩ := key q hq
          exact ⟨_, by simp only [Sem.run_bind, g1, Result.andThen_ok]; exact run_neq_of g3 g2, rfl, trivial⟩
end
end Go.Va
set_option linter.unusedVariables false
namespace Go.Va

theorem Dn_get {cls : Nat → Cls} : ∀ (xs : List AV) {z : Nat} {o : Go.Obj} {off : Nat}, Dn cls xs z o off → ∀ i e, xs[i]? = some e → ∃ vs, D cls e vs ∧ vs.length = z ∧ CellsAt o (off + i * z) vs
  | [], _, _, _, _, i, e, h => by simp at h
  | x :: xs, z, o, off, hd, i, e, h => by
    simp only [Dn] at hd
    obtain ⟨vs, h1, h2, h3, h4⟩ := hd
    cases i with
    | zero => simp at h; subst h; exact ⟨vs, h1, h2, by simpa using h3⟩
    | succ i =>
      simp at h
      obtain ⟨us, k1, k2, k3⟩ := Dn_get xs h4 i e h
      exact ⟨us, k1, k2, by rwa [show off + (i + 1) * z = off + z + i * z by rw [Nat.add_mul]; omega]⟩
theorem D_cells {cls : Nat → Cls} {e : AV} {vs : List Value} (h : D cls e vs) : Dl cls e.cells vs := by
  cases e with
  | agg xs => simpa only [D, AV.cells] using h
  | s v => simp only [D] at h; obtain ⟨rfl, h⟩ := h; simp [AV.cells, Dl, D, AV.flat, h]
  | sl z xs p =>
    cases p with
    | imm =>
      have h' := h
      simp only [D] at h
      obtain ⟨a, cap, rfl, _⟩ := h
      simp only [AV.cells, Dl]
      exact ⟨_, [], rfl, rfl, h', rfl⟩
    | _ => simp [D] at h
  | _ => simp [D] at h
theorem D_V {cls : Nat → Cls} {x : AV} {v : Value} (hf : x.flat = true) (h : D cls x [v]) : V cls x v := by
  cases x with
  | s u => simpa [D, V] using h
  | sl z xs p => cases p <;> first | (simpa only [V] using h) | simp [D] at h
  | agg xs => cases hf
  | _ => simp [D] at h
theorem Dl_Vl {cls : Nat → Cls} : ∀ (xs : List AV) (vs : List Value), Dl cls xs vs → Vl cls xs vs
  | [], vs, h => by simpa only [Dl, Vl] using h
  | x :: xs, vs, h => by
    simp only [Dl] at h
    obtain ⟨v, vs', rfl, hf, h1, h2⟩ := h
    simp only [Vl]
    exact ⟨v, vs', rfl, D_V hf h1, Dl_Vl xs vs' h2⟩
theorem Dl_drop {cls : Nat → Cls} : ∀ (n : Nat) (xs : List AV) (vs : List Value), Dl cls xs vs → Dl cls (xs.drop n) (vs.drop n)
  | 0, xs, vs, h => by simpa using h
  | n + 1, [], vs, h => by simp only [Dl] at h; subst h; simp [Dl]
  | n + 1, x :: xs, vs, h => by
    simp only [Dl] at h
    obtain ⟨v, vs', rfl, _, _, h2⟩ := h
    exact Dl_drop n xs vs' h2
theorem Vl_drop {cls : Nat → Cls} : ∀ (n : Nat) (xs : List AV) (vs : List Value), Vl cls xs vs → Vl cls (xs.drop n) (vs.drop n)
  | 0, xs, vs, h => by simpa using h
  | n + 1, [], vs, h => by simp only [Vl] at h; subst h; simp [Vl]
  | n + 1, x :: xs, vs, h => by
    simp only [Vl] at h
    obtain ⟨v, vs', rfl, _, h2⟩ := h
    exact Vl_drop n xs vs' h2
theorem CellsAt_drop {o : Go.Obj} {off n : Nat} {vs : List Value} (h : CellsAt o off vs) : CellsAt o (off + n) (vs.drop n) := by
  obtain ⟨c, e, fz, rfl, h⟩ := h
  refine ⟨c, e, fz, rfl, fun j v hj => ?_⟩
  rw [List.getElem?_drop] at hj
  have := h (n + j) v hj
  rwa [show off + n + j = off + (n + j) by omega]
theorem V_rp_drop {cls : Nat → Cls} {r : Bool} {xs : List AV} {b off n : Nat} (h : V cls (.rp r xs) (.pointer (some ⟨b, off, none⟩))) : V cls (.rp r (xs.drop n)) (.pointer (some ⟨b, off + n, none⟩)) := by
  cases r with
  | false =>
    simp only [V] at h ⊢
    obtain ⟨b', off', o, vs, e, h1, h2, h3⟩ := h
    cases e
    exact ⟨b, off + n, o, vs.drop n, rfl, h1, Dl_drop n _ _ h2, CellsAt_drop h3⟩
  | true =>
    simp only [V] at h ⊢
    obtain ⟨b', off', o, vs, e, h1, h2, h3⟩ := h
    cases e
    exact ⟨b, off + n, o, vs.drop n, rfl, h1, Vl_drop n _ _ h2, CellsAt_drop h3⟩
theorem V_rp_ptr {cls : Nat → Cls} {r : Bool} {xs : List AV} {v : Value} (h : V cls (.rp r xs) v) : ∃ b off, v = .pointer (some ⟨b, off, none⟩) := by
  cases r <;> simp only [V] at h <;> obtain ⟨b, off, _, _, e, _⟩ := h <;> exact ⟨b, off, e⟩

section
variable {c : Cx} {γ : Gh} {st : St} {a : Act} {w : World} {o : Oper} {env : Env}

theorem val_un (hi : Inv c γ st a w) {op : UnOp} {t : TypeId} {x : Operand} {y : AV} {st1 : St} (E : EnvOk c.P env) (ho : o.op = .unOp op t x) (h : stepV env st o.op = some (y, st1)) : Val c γ st st1 a w o y := by
  rw [ho] at h
  simp only [stepV] at h
  split at h
  · rename_i b hx
    cases h
    obtain ⟨ex, _⟩ := opd_s hi hx
    exact val_same (v := .bool (!b)) hi (by simp [execOp, ho, ex, Op.unary]) (flow_s (v := .bool (!b)) trivial)
  · rename_i k n hx
    cases h
    obtain ⟨ex, _⟩ := opd_s hi hx
    rw [E.A]
    exact val_same (v := .int k (k.wrap (0 - n))) hi (by simp [execOp, ho, ex, Op.unary, Op.intArith]) (flow_s (v := .int k (k.wrap (0 - n))) trivial)
  · cases h
theorem val_iface (hi : Inv c γ st a w) {t : TypeId} {x : Operand} {y : AV} {st1 : St} (E : EnvOk c.P env) (ho : o.op = .makeInterface t x) (h : stepV env st o.op = some (y, st1)) : Val c γ st st1 a w o y := by
  rw [ho] at h
  simp only [stepV] at h
  split at h
  · rename_i v ty hx ht
    cases hp : ty.plainK with
    | false => rw [hp] at h; cases h
    | true =>
      rw [hp] at h
      cases h
      obtain ⟨ex, _⟩ := opd_s hi hx
      obtain ⟨d, hu, hd⟩ := (E.tyOk ht).plain hp
      refine val_same hi ?_ (flow_s (v := .iface t v) trivial)
      simp only [execOp, ho, ex, Instr.makeInterface, Sem.run_bind, run_underlying hu, Result.andThen_ok]
      cases d <;> first | (exact (hd _ rfl).elim) | rfl
  · cases h
theorem val_nilCheck (hi : Inv c γ st a w) {x : Operand} {y : AV} {st1 : St} (ho : o.op = .nilCheck x) (h : stepV env st o.op = some (y, st1)) : Val c γ st st1 a w o y := by
  rw [ho] at h
  simp only [stepV] at h
  have key : (opd st x).free = true → y = opd st x → st1 = st → (∃ p, a.eval x = .pointer (some p)) → Val c γ st st1 a w o y := by
    intro hf hy hs ⟨p, hp⟩
    subst hy hs
    exact val_same (v := .pointer (some p)) hi (by simp [execOp, ho, hp]) (by rw [← hp]; exact flow_opd hi x 0 hf)
  split at h
  · rename_i i off hx
    cases h
    refine key (by rw [hx]; rfl) hx.symm rfl ?_
    have := opd_ok (l := lim 0) hi x (by rw [hx]; rfl)
    rw [hx] at this
    simp only [R] at this
    obtain ⟨b, _, e⟩ := this
    exact ⟨_, e⟩
  · rename_i r xs hx
    cases h
    refine key (by rw [hx]; rfl) hx.symm rfl ?_
    have := opd_ok (l := lim 0) hi x (by rw [hx]; rfl)
    rw [hx] at this
    simp only [R] at this
    obtain ⟨b, off, e⟩ := V_rp_ptr this
    exact ⟨_, e⟩
  · rename_i hm i off hx
    cases h
    refine key (by rw [hx]; rfl) hx.symm rfl ?_
    obtain ⟨b, o, e⟩ := ((flow_opd hi x 0 (by rw [hx]; rfl)).ep _ _ _ hx).2.1
    exact ⟨_, e⟩
  · cases h

theorem fChk_get {P : Program} : ∀ (os : List (Option (Nat × Nat))) (fs : List Field) (f off sz : Nat), fChk P os fs = true → lget os f = some (some (off, sz)) →
    ∃ fd, fs[f]? = some fd ∧ fd.offset = off ∧ sz ≠ 0 ∧ ∃ i, P.info? fd.type = some i ∧ i.size = sz
  | [], _, f, _, _, _, e => by simp [lget] at e
  | o :: os, [], _, _, _, h, _ => by simp [fChk] at h
  | o :: os, fd :: fs, 0, off, sz, h, e => by
    simp only [lget] at e
    cases e
    simp only [fChk, Bool.and_eq_true] at h
    cases hi : P.info? fd.type with
    | none => rw [hi] at h; simp at h
    | some i =>
      rw [hi] at h
      simp only [Bool.and_eq_true, beq_iff_eq, bne_iff_ne] at h
      exact ⟨fd, rfl, h.1.1.1, h.1.2, i, hi, h.1.1.2⟩
  | o :: os, fd :: fs, f + 1, off, sz, h, e => by
    simp only [lget] at e
    simp only [fChk, Bool.and_eq_true] at h
    obtain ⟨fd', h1, h2⟩ := fChk_get os fs f off sz h.2 e
    exact ⟨fd', by simpa using h1, h2⟩
theorem run_fieldAt {P : Program} {t : TypeId} {ty : Ty} (T : TyOk P t ty) {f off sz b n : Nat} (hf : lget ty.offs f = some (some (off, sz))) (w : World) :
    (Instr.fieldAt t (.pointer (some ⟨b, n, none⟩)) f).run P w = .ok (.pointer (some ⟨b, n + off, none⟩)) w := by
  have hag : ty.isAgg = true := by
    rcases T.offs with h | h
    · exact h
    · rw [h] at hf; simp [lget] at hf
  obtain ⟨fs, hu, hc, _⟩ := T.kstruct hag
  obtain ⟨fd, h1, h2, h3, i, h4, h5⟩ := fChk_get _ _ _ _ _ hc hf
  have h1' : fs[f]? = some fd := by simpa using h1
  simp only [Instr.fieldAt, Sem.run_bind, run_underlying hu, Result.andThen_ok, h1', Instr.sureAddr, Sem.run_pure, fieldPlace, sizeOf, typeInfo, run_program, h4, h5, Sem.run_ite, if_neg h3, h2, Addr.add_lit]
end
end Go.Va
set_option linter.unusedVariables false
namespace Go.Va
section
variable {c : Cx} {γ : Gh} {st : St} {a : Act} {w : World} {o : Oper} {env : Env}

theorem val_fieldAddr (E : EnvOk c.P env) (hi : Inv c γ st a w) {t : TypeId} {x : Operand} {f : Nat} {y : AV} {st1 : St} (ho : o.op = .fieldAddr t x f) (h : stepV env st o.op = some (y, st1)) : Val c γ st st1 a w o y := by
  rw [ho] at h
  simp only [stepV] at h
  cases ht : env.ty t with
  | none => rw [ht] at h; cases h
  | some ty =>
    rw [ht] at h
    simp only at h
    have T := E.tyOk ht
    have run : ∀ {off sz b n}, lget ty.offs f = some (some (off, sz)) → a.eval x = .pointer (some ⟨b, n, none⟩) → (execOp a.eval o).run c.P w = .ok (.value (.pointer (some ⟨b, n + off, none⟩))) w := by
      intro off sz b n hf hx
      simp only [execOp, ho, hx, Sem.run_bind, run_fieldAt T hf, Result.andThen_ok, Sem.run_pure]
    split at h
    · rename_i off sz i n hf hx
      cases h
      have hr := opd_ok (l := lim 0) hi x (by rw [hx]; rfl)
      rw [hx] at hr
      simp only [R] at hr
      obtain ⟨b, hb, e⟩ := hr
      exact val_same hi (run hf e) (.free (by simp only [R]; exact ⟨b, hb, rfl⟩) (by simp) (by simp))
    · rename_i off sz r xs hf hx
      cases h
      have hr := opd_ok (l := lim 0) hi x (by rw [hx]; rfl)
      rw [hx] at hr
      simp only [R] at hr
      obtain ⟨b, n, e⟩ := V_rp_ptr hr
      rw [e] at hr
      exact val_same hi (run hf e) (.free (by simp only [R]; exact V_rp_drop hr) (by simp) (by simp))
    · rename_i off sz hm i n hf hx
      cases h
      obtain ⟨ow, ⟨b, m, e⟩, ep⟩ := (flow_opd hi x 0 (by rw [hx]; rfl)).ep _ _ _ hx
      refine val_same hi (run hf e) ⟨by simp only [R], by simp, ?_⟩
      intro h' i' off' e'
      cases e'
      refine ⟨ow, ⟨b, _, rfl⟩, ?_⟩
      intro z xs p hx' u hu
      obtain ⟨k1, b', o0, cap, k2, k3⟩ := ep z xs p hx' u hu
      rw [e] at k3
      injection k3 with k3
      injection k3 with k3
      injection k3 with k4 k5
      refine ⟨k1, b', o0, cap, k2, ?_⟩
      rw [k4, k5, Nat.add_assoc, ← Nat.add_assoc]
    · cases h

/-- an index within: the address -/
theorem run_index {P : Program} {t e : TypeId} {te : Ty} (hu : P.underlying t = some (.slice e)) (T : TyOk P e te) {b off len cap i : Nat} {k : IntKind} (hl : i < len) (w : World) :
    (Instr.indexAt t (.slice (some ⟨b, off, none⟩) len cap) (.int k i)).run P w = .ok (.pointer (some ⟨b, off + i * te.size, none⟩)) w := by
  have h1 : (0 : Int) ≤ (i : Int) ∧ (i : Int) < (len : Int) := by omega
  simp only [Instr.indexAt, asIntOf, Sem.run_bind, Sem.run_pure, Result.andThen_ok, run_underlying hu, if_pos h1, run_sizeOf' T, Addr.add_lit, Int.toNat_natCast, Sem.run_ite]
theorem sl_cases {γ : Gh} {w : World} {l : Loc} {z : Nat} {xs : List AV} {p : Perm} {v : Value} (h : R γ w l (.sl z xs p) v) (hp : p ≠ .full) :
    ∃ a cap, v = .slice a xs.length cap ∧ xs.length ≤ cap ∧ (xs = [] ∨ ∃ b off ob, a = some ⟨b, off, none⟩ ∧ γ.cls b = (match p with | .imm => Cls.imm ob | _ => Cls.ro ob) ∧ Dn γ.cls xs z ob off) := by
  cases p with
  | full => exact (hp rfl).elim
  | imm =>
    simp only [R, V, D] at h
    obtain ⟨a, cap, e, h1, h2⟩ := h
    injection e with e
    exact ⟨a, cap, e, h1, h2⟩
  | ro => simpa only [R, V] using h
theorem val_indexAddr (E : EnvOk c.P env) (hi : Inv c γ st a w) {t : TypeId} {x i : Operand} {y : AV} {st1 : St} (ho : o.op = .indexAddr t x i) (h : stepV env st o.op = some (y, st1)) : Val c γ st st1 a w o y := by
  rw [ho] at h
  simp only [stepV] at h
  cases hte : env.elemOf t with
  | none => rw [hte] at h; cases h
  | some te =>
      rw [hte] at h
      simp only at h
      obtain ⟨e, hu, T⟩ := E.elem hte
      have run : ∀ {b off len cap k n}, n < len → a.eval x = .slice (some ⟨b, off, none⟩) len cap → a.eval i = .int k (n : Int) →
          (execOp a.eval o).run c.P w = .ok (.value (.pointer (some ⟨b, off + n * te.size, none⟩))) w := by
        intro b off len cap k n hn hx hi'
        simp only [execOp, ho, hx, hi', Sem.run_bind, run_index hu T hn, Result.andThen_ok, Sem.run_pure]
      cases hv : indexV env.A st te.size x (opd st i) with
      | none => rw [hv] at h; cases h
      | some v =>
        rw [hv] at h
        cases h
        unfold indexV at hv
        cases hn : natOf (opd st i) with
        | none => rw [hn] at hv; cases hv
        | some n =>
          rw [hn] at hv
          simp only at hv
          obtain ⟨k, ek⟩ := opd_nat hi hn
          split at hv
          · rename_i z xs hx
            cases x with
            | tmp s =>
              simp only at hv
              cases hb : Nat.beq z te.size && env.A.nle (n + 1) xs.length with
              | false => rw [hb] at hv; cases hv
              | true =>
                rw [hb] at hv
                cases hv
                simp only [Bool.and_eq_true] at hb
                have hz := beq_t hb.1
                have hlt : n < xs.length := by
                  have := hb.2
                  rw [E.A] at this
                  simp [realAr] at this
                  omega
                have hr := hi.fm.val s
                rw [show fget st.fr s = _ from hx] at hr
                simp only [R] at hr
                rcases hr with ⟨hnil, _⟩ | ⟨b, cap, cs, el, e, _⟩
                · rw [hnil] at hlt; simp at hlt
                · refine val_same hi (run hlt e ek) ⟨by simp only [R], by simp, ?_⟩
                  intro h' i' off' e'
                  cases e'
                  refine ⟨by simp only [homeGet]; rw [show fget st.fr s = _ from hx]; rfl, ⟨b, _, rfl⟩, ?_⟩
                  intro z' xs' p' hx' u hu'
                  simp only [homeGet] at hx'
                  rw [show fget st.fr s = _ from hx] at hx'
                  cases hx'
                  cases hu'
                  exact ⟨hlt, b, 0, cap, e, by rw [hz, Nat.add_zero]⟩
            | _ => cases hv
          · rename_i z xs p hne hx
            cases he : lget xs n with
            | none => rw [he] at hv; cases hv
            | some e =>
              rw [he] at hv
              simp only at hv
              cases hb : Nat.beq z te.size with
              | false => rw [hb] at hv; cases hv
              | true =>
                rw [hb] at hv
                cases hv
                have hz := beq_t hb
                rw [lget_eq] at he
                have hlt : n < xs.length := by
                  by_cases q : n < xs.length
                  · exact q
                  · rw [List.getElem?_eq_none (by omega)] at he; cases he
                have hp : p ≠ .full := fun q => by subst q; first | exact (hne _ _ rfl).elim | exact (hne rfl).elim | exact hne.elim | simp at hne
                have hr := opd_ok (l := lim 0) hi x (by rw [hx]; cases p <;> first | rfl | exact (hp rfl).elim)
                rw [hx] at hr
                obtain ⟨ad, cap, e1, e2, e3⟩ := sl_cases hr hp
                rcases e3 with e3 | ⟨b, off, ob, rfl, e4, e5⟩
                · rw [e3] at hlt; simp at hlt
                · obtain ⟨vs, d1, d2, d3⟩ := Dn_get xs e5 n e he
                  refine val_same hi (run hlt e1 ek) (.free ?_ (by simp) (by simp))
                  rw [← hz]
                  cases p with
                  | full => exact (hp rfl).elim
                  | imm => simp only [R, V]; exact ⟨b, _, ob, vs, rfl, e4, D_cells d1, d3⟩
                  | ro => simp only [R, V]; exact ⟨b, _, ob, vs, rfl, e4, Dl_Vl _ _ (D_cells d1), d3⟩
          · rename_i z hm lo len hx
            cases hb : Nat.beq z te.size && env.A.nle (n + 1) len with
            | false => rw [hb] at hv; cases hv
            | true =>
              rw [hb] at hv
              cases hv
              simp only [Bool.and_eq_true] at hb
              have hz := beq_t hb.1
              have hlt : n < len := by
                have := hb.2
                rw [E.A] at this
                simp [realAr] at this
                omega
              obtain ⟨ow, ⟨ad, cap, e1, _, e2⟩, al⟩ := (flow_opd hi x 0 (by rw [hx]; rfl)).al _ _ _ _ hx
              obtain ⟨b, off, rfl⟩ := e2 (by omega)
              refine val_same hi (run hlt e1 ek) ⟨by simp only [R], by simp, ?_⟩
              intro h' i' off' e'
              cases e'
              refine ⟨ow, ⟨b, _, rfl⟩, ?_⟩
              intro z' xs p hx' u hu'
              obtain ⟨k1, k2, ha, cap', a', k3, k4, k5, k6⟩ := al z' xs p hx' u hu'
              obtain ⟨b', off1, k7, k8⟩ := k6 (by omega)
              rw [e1] at k4
              injection k4 with k4 _ _
              rw [k8] at k4
              injection k4 with k4
              injection k4 with k4 k9
              refine ⟨by omega, b', off1, cap', by rw [k3, k7], ?_⟩
              rw [k4, k9, ← hz, k1, Nat.add_mul, Nat.add_zero, Nat.add_assoc]
          · cases hv
end
end Go.Va
