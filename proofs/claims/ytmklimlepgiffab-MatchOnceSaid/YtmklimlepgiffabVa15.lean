/- The verified abstract interpreter, a part of it: no statement of its own. -/
import Derived.Test.YtmklimlepgiffabVa14
set_option linter.unusedVariables false
set_option linter.unusedSimpArgs false
set_option linter.unusedVariables false
namespace Go.Va
section
variable {c : Cx} {γ : Gh} {st : St} {a : Act} {w : World} {o : Oper} {env : Env}

theorem run_bound {P : Program} {w : World} {k : IntKind} {n y : Nat} {code : BoundsCode} (h : n ≤ y) : (Instr.sliceBound (.int k (n : Int)) y code).run P w = .ok n w := by
  have : (0 : Int) ≤ (n : Int) ∧ (n : Int) ≤ (y : Int) := by omega
  simp only [Instr.sliceBound, asIntOf, Sem.run_bind, Sem.run_pure, Result.andThen_ok, if_pos this, Int.toNat_natCast, Sem.run_ite]
/-- bounds -/
theorem bds_ok (hi : Inv c γ st a w) {len cap : Nat} {lo hi' : Option Operand} {l h : Nat} (hc : len ≤ cap) (hb : sliceBds realAr len (optOpd st lo) (optOpd st hi') = some (l, h)) (isSlice : Bool) :
    l ≤ h ∧ h ≤ len ∧ (Instr.sliceBounds isSlice len cap (lo.map a.eval) (hi'.map a.eval) none).run c.P w = .ok (l, h, cap) w := by
  unfold sliceBds at hb
  have hh : ∀ (q : Option Operand) (d : Nat), (match optOpd st q with | none => some d | some h => natOf h) = some h → (q = none ∧ h = d) ∨ ∃ x k, q = some x ∧ a.eval x = .int k (h : Int) := by
    intro q d e
    cases q with
    | none => simp only [optOpd] at e; cases e; exact .inl ⟨rfl, rfl⟩
    | some x =>
      simp only [optOpd] at e
      obtain ⟨k, ek⟩ := opd_nat hi e
      exact .inr ⟨x, k, rfl, ek⟩
  have hl : ∀ (q : Option Operand) (d : Nat), (match optOpd st q with | none => some d | some h => natOf h) = some l → (q = none ∧ l = d) ∨ ∃ x k, q = some x ∧ a.eval x = .int k (l : Int) := by
    intro q d e
    cases q with
    | none => simp only [optOpd] at e; cases e; exact .inl ⟨rfl, rfl⟩
    | some x =>
      simp only [optOpd] at e
      obtain ⟨k, ek⟩ := opd_nat hi e
      exact .inr ⟨x, k, rfl, ek⟩
  split at hb
  · rename_i h0 l0 e1 e2
    cases hn : realAr.nle h0 len && realAr.nle l0 h0 with
    | false => rw [hn] at hb; cases hb
    | true =>
      rw [hn] at hb
      cases hb
      have h1 : h ≤ len ∧ l ≤ h := by simpa [realAr] using hn
      refine ⟨h1.2, h1.1, ?_⟩
      have c1 := hh hi' len e1
      have c2 := hl lo 0 e2
      have h2 : h ≤ cap := by omega
      rcases c1 with ⟨rfl, rfl⟩ | ⟨x, k, rfl, ex⟩ <;> rcases c2 with ⟨rfl, rfl⟩ | ⟨x', k', rfl, ex'⟩ <;>
        simp [Instr.sliceBounds, *, run_bound h1.2, run_bound h2]
  · cases hb
theorem cut_addr {l hh cap z sz : Nat} {xs : List AV} {ad : Option Addr} (h : hh ≤ cap) (he : xs = [] ∨ ∃ b off, ad = some ⟨b, off, none⟩) (hx : xs = [] → hh = 0) (hz : z = sz) :
    0 < hh - l → ∃ b off, ad = some ⟨b, off, none⟩ ∧ (if cap = l then ad else ad.map (·.add (l * sz))) = some ⟨b, off + l * z, none⟩ := by
  intro h0
  rcases he with he | ⟨b, off, rfl⟩
  · have := hx he; omega
  · refine ⟨b, off, rfl, ?_⟩
    rw [if_neg (by omega)]
    simp [Addr.add_lit, hz]
/-- what is lent, in part -/
theorem ro_cut {cls : Nat → Cls} {z : Nat} {xs : List AV} {u v : Value} {lo len : Nat} {ha a' : Option Addr} {cap : Nat} (h : V cls (.sl z xs .ro) u) (hl : lo + len ≤ xs.length)
    (hu : u = .slice ha xs.length cap) (hv : v = .slice a' len (cap - lo)) (h1 : 0 < len → ∃ b off, ha = some ⟨b, off, none⟩ ∧ a' = some ⟨b, off + lo * z, none⟩) :
    V cls (.sl z (lcut xs lo len) .ro) v := by
  simp only [V] at h ⊢
  obtain ⟨a, cap', e, hc, hx⟩ := h
  subst hu
  injection e with e1 e2 e3
  subst e1 e3
  refine ⟨a', cap - lo, ?_, ?_, ?_⟩
  · rw [hv, lcut_len hl]
  · rw [lcut_len hl]; omega
  · by_cases h0 : 0 < len
    · obtain ⟨b, off, k1, k2⟩ := h1 h0
      rcases hx with rfl | ⟨b', off', o, e4, hb, hn⟩
      · simp at hl; omega
      · rw [k1] at e4
        injection e4 with e4
        injection e4 with e5 e6
        subst e5 e6
        exact .inr ⟨b, off + lo * z, o, k2, hb, Dn_cut hn⟩
    · left
      have : len = 0 := by omega
      subst this
      simp [lcut]
theorem val_slice (E : EnvOk c.P env) (hi : Inv c γ st a w) {t : TypeId} {x : Operand} {lo hi' mx : Option Operand} {y : AV} {st1 : St} (ho : o.op = .slice t x lo hi' mx) (h : stepV env st o.op = some (y, st1)) : Val c γ st st1 a w o y := by
  rw [ho] at h
  simp only [stepV] at h
  cases mx with
  | some _ => cases h
  | none =>
    simp only at h
    cases ht : env.ty t with
    | none => rw [ht] at h; cases h
    | some ty =>
      rw [ht] at h
      simp only at h
      rw [E.A] at h
      cases hs : ty.isStr with
      | true =>
        rw [hs] at h
        simp only [cond_true] at h
        cases hv : sliceS realAr (opd st x) (optOpd st lo) (optOpd st hi') with
        | none => rw [hv] at h; cases h
        | some v =>
          rw [hv] at h
          cases h
          unfold sliceS at hv
          split at hv
          · rename_i s hx
            obtain ⟨ex, _⟩ := opd_s hi hx
            cases hb : sliceBds realAr (realAr.siz s) (optOpd st lo) (optOpd st hi') with
            | none => rw [hb] at hv; cases hv
            | some lh =>
              obtain ⟨l, hh⟩ := lh
              rw [hb] at hv
              cases hv
              obtain ⟨b1, b2, b3⟩ := bds_ok hi (Nat.le_refl _) hb false
              have hu := (E.tyOk ht).kstr hs
              have b3' : (Instr.sliceBounds false s.size s.size (lo.map a.eval) (hi'.map a.eval) none).run c.P w = .ok (l, hh, s.size) w := b3
              refine val_same hi ?_ (flow_s (v := .string (s.extract l hh)) trivial)
              simp only [execOp, ho, ex, Instr.sliceAt, Sem.run_bind, run_underlying hu, Result.andThen_ok, Instr.slice, Option.map_none, Option.isSome_none, Bool.false_eq_true, if_false, b3', Sem.run_pure]
          · cases hv
      | false =>
        rw [hs] at h
        simp only [cond_false] at h
        cases hte : env.elemOf t with
        | none => rw [hte] at h; cases h
        | some te =>
          rw [hte] at h
          simp only at h
          obtain ⟨e, hu, T⟩ := E.elem hte
          have run : ∀ {ad len cap l hh}, len ≤ cap → a.eval x = .slice ad len cap → sliceBds realAr len (optOpd st lo) (optOpd st hi') = some (l, hh) →
              (execOp a.eval o).run c.P w = .ok (.value (.slice (if cap = l then ad else ad.map (·.add (l * te.size))) (hh - l) (cap - l))) w ∧ l ≤ hh ∧ hh ≤ len := by
            intro ad len cap l hh hc ex hb
            obtain ⟨b1, b2, b3⟩ := bds_ok hi hc hb true
            refine ⟨?_, b1, b2⟩
            simp only [execOp, ho, ex, Instr.sliceAt, Sem.run_bind, run_underlying hu, Result.andThen_ok, Instr.slice, Option.map_none, b3, run_sizeOf' T, Sem.run_pure]
          cases hv : sliceV realAr st te.size x (optOpd st lo) (optOpd st hi') with
          | none => rw [hv] at h; cases h
          | some v =>
            rw [hv] at h
            cases h
            unfold sliceV at hv
            split at hv
            · rename_i z xs hx
              cases hb : sliceBds realAr xs.length (optOpd st lo) (optOpd st hi') with
              | none => rw [hb] at hv; cases hv
              | some lh =>
                obtain ⟨l, hh⟩ := lh
                rw [hb] at hv
                simp only at hv
                cases hz : Nat.beq z te.size with
                | false => rw [hz] at hv; cases hv
                | true =>
                  rw [hz] at hv
                  cases hv
                  have hz := beq_t hz
                  have hr := opd_ok (l := lim 0) hi x (by rw [hx]; rfl)
                  rw [hx] at hr
                  obtain ⟨ad, cap, e1, e2, e3⟩ := sl_cases hr (by simp)
                  obtain ⟨r1, r2, r3⟩ := run e2 e1 hb
                  simp only [R] at hr
                  refine val_same hi r1 (.free ?_ (by simp) (by simp))
                  simp only [R]
                  exact imm_cut hr (by omega) e1 rfl (cut_addr (by omega) (e3.imp id fun ⟨b, off, _, q, _⟩ => ⟨b, off, q⟩) (fun q => by rw [q] at r3; simp at r3; omega) hz)
            · rename_i z xs hx
              cases hb : sliceBds realAr xs.length (optOpd st lo) (optOpd st hi') with
              | none => rw [hb] at hv; cases hv
              | some lh =>
                obtain ⟨l, hh⟩ := lh
                rw [hb] at hv
                simp only at hv
                cases hz : Nat.beq z te.size with
                | false => rw [hz] at hv; cases hv
                | true =>
                  rw [hz] at hv
                  cases hv
                  have hz := beq_t hz
                  have hr := opd_ok (l := lim 0) hi x (by rw [hx]; rfl)
                  rw [hx] at hr
                  obtain ⟨ad, cap, e1, e2, e3⟩ := sl_cases hr (by simp)
                  obtain ⟨r1, r2, r3⟩ := run e2 e1 hb
                  simp only [R] at hr
                  refine val_same hi r1 (.free ?_ (by simp) (by simp))
                  simp only [R]
                  exact ro_cut hr (by omega) e1 rfl (cut_addr (by omega) (e3.imp id fun ⟨b, off, _, q, _⟩ => ⟨b, off, q⟩) (fun q => by rw [q] at r3; simp at r3; omega) hz)
            · rename_i z xs hx
              cases x with
              | tmp s =>
                simp only at hv
                cases hb : sliceBds realAr xs.length (optOpd st lo) (optOpd st hi') with
                | none => rw [hb] at hv; cases hv
                | some lh =>
                  obtain ⟨l, hh⟩ := lh
                  rw [hb] at hv
                  simp only at hv
                  cases hz : Nat.beq z te.size with
                  | false => rw [hz] at hv; cases hv
                  | true =>
                    rw [hz] at hv
                    cases hv
                    have hz := beq_t hz
                    have hx : fget st.fr s = .sl z xs .full := hx
                    have hr := hi.fm.val s
                    rw [hx] at hr
                    simp only [R] at hr
                    have hsl : ∃ ad cap, a.tmps.getD s undef = .slice ad xs.length cap ∧ xs.length ≤ cap ∧ (xs = [] ∨ ∃ b off, ad = some ⟨b, off, none⟩) := by
                      rcases hr with ⟨rfl, e⟩ | ⟨b, cap, cs, el, e, _, _, _, hl, _⟩
                      · exact ⟨none, 0, e, by simp, .inl rfl⟩
                      · exact ⟨_, cap, e, hl, .inr ⟨b, 0, rfl⟩⟩
                    obtain ⟨ad, cap, e1, e2, e3⟩ := hsl
                    obtain ⟨r1, r2, r3⟩ := run e2 e1 hb
                    have ca := cut_addr (l := l) (hh := hh) (cap := cap) (z := z) (sz := te.size) (xs := xs) (ad := ad) (by omega) e3 (fun q => by rw [q] at r3; simp at r3; omega) hz
                    refine val_same hi r1 ⟨by simp only [R], ?_, by simp⟩
                    intro z' h' lo' len' e'
                    cases e'
                    refine ⟨by simp only [homeGet]; rw [hx]; rfl, ⟨_, _, rfl, by omega, fun q => ?_⟩, ?_⟩
                    · obtain ⟨b, off, _, q2⟩ := ca q
                      exact ⟨b, _, q2⟩
                    · intro z1 xs1 p1 hx1 u hu1
                      simp only [homeGet] at hx1
                      rw [hx] at hx1
                      cases hx1
                      cases hu1
                      refine ⟨rfl, by omega, ad, cap, _, e1, rfl, ?_, fun q => ca q⟩
                      intro q
                      subst q
                      cases ad <;> simp [Addr.add_zero']
              | _ => cases hv
            · rename_i z hm l0 len hx
              cases hb : sliceBds realAr len (optOpd st lo) (optOpd st hi') with
              | none => rw [hb] at hv; cases hv
              | some lh =>
                obtain ⟨l, hh⟩ := lh
                rw [hb] at hv
                simp only at hv
                cases hz : Nat.beq z te.size with
                | false => rw [hz] at hv; cases hv
                | true =>
                  rw [hz] at hv
                  cases hv
                  have hz := beq_t hz
                  obtain ⟨ow, ⟨ad, cap, e1, e0, e2⟩, al⟩ := (flow_opd hi x 0 (by rw [hx]; rfl)).al _ _ _ _ hx
                  obtain ⟨r1, r2, r3⟩ := run e0 e1 hb
                  have ca : 0 < hh - l → ∃ b off, ad = some ⟨b, off, none⟩ ∧ (if cap = l then ad else ad.map (·.add (l * te.size))) = some ⟨b, off + l * z, none⟩ := by
                    intro q
                    obtain ⟨b, off, rfl⟩ := e2 (by omega)
                    refine ⟨b, off, rfl, ?_⟩
                    rw [if_neg (by omega)]
                    simp [Addr.add_lit, hz]
                  refine val_same hi r1 ⟨by simp only [R], ?_, by simp⟩
                  intro z' h' lo' len' e'
                  cases e'
                  refine ⟨ow, ⟨_, _, rfl, by omega, fun q => ?_⟩, ?_⟩
                  · obtain ⟨b, off, _, q2⟩ := ca q
                    exact ⟨b, _, q2⟩
                  · intro z1 xs1 p1 hx1 u hu1
                    obtain ⟨k1, k2, ha, cap0, a', k3, k4, k5, k6⟩ := al z1 xs1 p1 hx1 u hu1
                    rw [e1] at k4
                    injection k4 with k4 _ k7
                    subst k4 k7
                    refine ⟨k1, by omega, ha, cap0, _, k3, by rw [Nat.sub_sub], ?_, ?_⟩
                    · intro q
                      have q1 : l0 = 0 := by omega
                      have q2 : l = 0 := by omega
                      subst q1 q2
                      rw [← k5 rfl]
                      cases ad <;> simp [Addr.add_zero']
                    · intro q
                      obtain ⟨b, off, q1, q2⟩ := ca q
                      obtain ⟨b', off', q3, q4⟩ := k6 (by omega)
                      rw [q1] at q4
                      injection q4 with q4
                      injection q4 with q4 q5
                      refine ⟨b', off', q3, ?_⟩
                      rw [q2, q4, q5, Nat.add_mul, Nat.add_assoc]
            · cases hv
end
end Go.Va
set_option linter.unusedVariables false
namespace Go.Va
section
variable {c : Cx} {γ : Gh} {st : St} {a : Act} {w : World} {o : Oper} {env : Env}

theorem val_index (E : EnvOk c.P env) (hi : Inv c γ st a w) {t : TypeId} {x i : Operand} {y : AV} {st1 : St} (ho : o.op = .index t x i) (h : stepV env st o.op = some (y, st1)) : Val c γ st st1 a w o y := by
  rw [ho] at h
  simp only [stepV] at h
  split at h
  · rename_i s j ty hx hj ht
    cases hb : env.A.at_ s j with
    | none => rw [hb] at h; cases h
    | some b =>
      rw [hb] at h
      simp only at h
      cases hs : ty.isStr with
      | false => rw [hs] at h; cases h
      | true =>
        rw [hs] at h
        cases h
        rw [E.A] at hb
        obtain ⟨u, hbu, rfl⟩ : ∃ u, s[j]? = some u ∧ b = .ofNat u.toNat := by
          simp only [realAr] at hb
          cases hu : s[j]? with
          | none => rw [hu] at hb; cases hb
          | some u => rw [hu] at hb; cases hb; exact ⟨u, rfl, rfl⟩
        obtain ⟨ex, _⟩ := opd_s hi hx
        obtain ⟨k, ei⟩ := opd_nat hi hj
        have hu := (E.tyOk ht).kstr hs
        refine val_same hi ?_ (flow_s (v := .int .u8 (u.toNat : Int)) trivial)
        have h0 : (0 : Int) ≤ (j : Int) := by omega
        simp only [execOp, ho, ex, ei, Instr.index, asIntOf, Sem.run_bind, Sem.run_pure, Result.andThen_ok, run_underlying hu, if_pos h0, Int.toNat_natCast, hbu]
  · cases h
theorem call_builtin {cc : Call} {b : Builtin} (ho : o.op = .call cc) (hc : cc.callee = .builtin b) :
    ∃ cs, (execOp a.eval o).run c.P w = (builtin b cc.argTypes o.type cs (cc.args.map a.eval)).run c.P w := by
  simp only [execOp, ho, resolve, hc, Sem.run_bind, Sem.run_pure, Result.andThen_ok, invoke]
  exact ⟨_, rfl⟩
theorem args_two {cc : Call} {x y : Operand} (h : cc.args.toList = [x, y]) (f : Operand → Value) : cc.args.map f = #[f x, f y] := by
  have : cc.args = #[x, y] := by rw [← h]
  rw [this]; simp
theorem args_one {cc : Call} {x : Operand} (h : cc.args.toList = [x]) (f : Operand → Value) : cc.args.map f = #[f x] := by
  have : cc.args = #[x] := by rw [← h]
  rw [this]; simp
theorem len_of (hi : Inv c γ st a w) {x : Operand} {ty : Ty} {t : TypeId} (T : TyOk c.P t ty) {n : Nat} (h : lenOf realAr ty (opd st x) = some n) (ts : Array TypeId) (hts : ts.toList = [t]) (u : TypeId) :
    (Builtin.len_ ts u #[a.eval x]).run c.P w = .ok (.int .i64 n) w := by
  have hts : ts = #[t] := by rw [← hts]
  subst hts
  have slc : ∀ {ad cap}, ty.isSlice = true → a.eval x = .slice ad n cap → (Builtin.len_ #[t] u #[a.eval x]).run c.P w = .ok (.int .i64 n) w := by
    intro ad cap hs e
    have hu := T.kslice hs
    rw [e]
    simp [Builtin.len_, run_underlying hu, goInt]
  unfold lenOf at h
  split at h
  · rename_i z xs p hx
    cases hs : ty.isSlice with
    | false => rw [hs] at h; cases h
    | true =>
      rw [hs] at h
      cases h
      cases x with
      | tmp s =>
        have hx : fget st.fr s = .sl z xs p := hx
        have hr := hi.fm.val s
        rw [hx] at hr
        by_cases hp : p = .full
        · subst hp
          simp only [R] at hr
          rcases hr with ⟨rfl, e⟩ | ⟨b, cap, cs, el, e, _⟩
          · exact slc hs e
          · exact slc hs e
        · obtain ⟨ad, cap, e, _⟩ := sl_cases hr hp
          exact slc hs e
      | const v =>
        simp only [opd] at hx
        unfold constV at hx
        split at hx <;> cases hx
        exact slc hs rfl
      | func f => cases hx
      | global g => cases hx
  · rename_i z hm lo len hx
    cases hs : ty.isSlice with
    | false => rw [hs] at h; cases h
    | true =>
      rw [hs] at h
      cases h
      obtain ⟨_, ⟨ad, cap, e, _⟩, _⟩ := (flow_opd hi x 0 (by rw [hx]; rfl)).al _ _ _ _ hx
      exact slc hs e
  · rename_i s hx
    cases hs : ty.isStr with
    | false => rw [hs] at h; cases h
    | true =>
      rw [hs] at h
      cases h
      obtain ⟨ex, _⟩ := opd_s hi hx
      have hu := T.kstr hs
      rw [ex]
      simp [Builtin.len_, run_underlying hu, goInt, realAr]
  · cases h
theorem val_len (E : EnvOk c.P env) (hi : Inv c γ st a w) {cc : Call} {x : Operand} {y : AV} {st1 : St} (ho : o.op = .call cc) (hc : cc.callee = .builtin .len) (hx : cc.args.toList = [x])
    (h : builtinV env st .len [x] cc.argTypes.toList = some (y, st1)) : Val c γ st st1 a w o y := by
  simp only [builtinV] at h
  split at h
  · rename_i t hts
    cases ht : env.ty t with
    | none => rw [ht] at h; cases h
    | some ty =>
      rw [ht] at h
      simp only at h
      cases hl : lenOf env.A ty (opd st x) with
      | none => rw [hl] at h; cases h
      | some n =>
        rw [hl] at h
        cases h
        rw [E.A] at hl
        refine val_same hi ?_ (flow_s (v := .int .i64 (n : Int)) trivial)
        obtain ⟨cs, hcs⟩ := call_builtin (a := a) (w := w) (c := c) ho hc
        rw [hcs, args_one hx]
        simp only [builtin, Sem.run_bind, len_of hi (E.tyOk ht) hl cc.argTypes hts, Result.andThen_ok, Sem.run_pure]
  · cases h
theorem val_min (E : EnvOk c.P env) (hi : Inv c γ st a w) {cc : Call} {x z : Operand} {y : AV} {st1 : St} (ho : o.op = .call cc) (hc : cc.callee = .builtin .min) (hx : cc.args.toList = [x, z])
    (h : builtinV env st .min [x, z] cc.argTypes.toList = some (y, st1)) : Val c γ st st1 a w o y := by
  simp only [builtinV] at h
  split at h
  · rename_i j p k q hx' hz'
    cases hj : kindEq j k with
    | false => rw [hj] at h; cases h
    | true =>
      rw [hj] at h
      cases h
      obtain ⟨ex, _⟩ := opd_s hi hx'
      obtain ⟨ez, _⟩ := opd_s hi hz'
      rw [E.A]
      have e2 : (bif realAr.lt q p then q else p) = if q < p then q else p := by simp [realAr, Bool.cond_eq_ite]
      rw [e2]
      refine val_same hi ?_ (flow_s (v := .int k (if q < p then q else p)) trivial)
      obtain ⟨cs, hcs⟩ := call_builtin (a := a) (w := w) (c := c) ho hc
      rw [hcs, args_two hx, ex, ez, kindEq_t hj]
      simp [builtin, Builtin.min_, Builtin.min2]
  · cases h
theorem val_max (E : EnvOk c.P env) (hi : Inv c γ st a w) {cc : Call} {x z : Operand} {y : AV} {st1 : St} (ho : o.op = .call cc) (hc : cc.callee = .builtin .max) (hx : cc.args.toList = [x, z])
    (h : builtinV env st .max [x, z] cc.argTypes.toList = some (y, st1)) : Val c γ st st1 a w o y := by
  simp only [builtinV] at h
  split at h
  · rename_i j p k q hx' hz'
    cases hj : kindEq j k with
    | false => rw [hj] at h; cases h
    | true =>
      rw [hj] at h
      cases h
      obtain ⟨ex, _⟩ := opd_s hi hx'
      obtain ⟨ez, _⟩ := opd_s hi hz'
      rw [E.A]
      have e2 : (bif realAr.lt p q then q else p) = if q > p then q else p := by simp [realAr, Bool.cond_eq_ite]
      rw [e2]
      refine val_same hi ?_ (flow_s (v := .int k (if q > p then q else p)) trivial)
      obtain ⟨cs, hcs⟩ := call_builtin (a := a) (w := w) (c := c) ho hc
      rw [hcs, args_two hx, ex, ez, kindEq_t hj]
      simp [builtin, Builtin.max_, Builtin.max2]
  · cases h

theorem okCaps_al : ∀ (xs : List AV), okCaps xs = true → ∀ x ∈ xs, (∀ z h lo len, x ≠ .al z h lo len) ∧ (∀ h i off, x ≠ .ep h i off)
  | [], _, x, hx => by cases hx
  | y :: ys, h, x, hx => by
    have : okCaps ys = true ∧ (∀ z h lo len, y ≠ .al z h lo len) ∧ (∀ h i off, y ≠ .ep h i off) := by
      cases y with
      | sl z xs p => cases p <;> simp [okCaps] at h ⊢ <;> exact h
      | _ => simp [okCaps] at h ⊢ <;> exact h
    rcases List.mem_cons.1 hx with rfl | hx
    · exact this.2
    · exact okCaps_al ys this.1 x hx
theorem opdL_ok (hi : Inv c γ st a w) : ∀ (xs : List Operand) (l : Loc) (n : Nat), freeL (opdL st xs) = true → Rl γ w l n (opdL st xs) (xs.map a.eval)
  | [], _, _, _ => by simp [opdL, Rl]
  | x :: xs, l, n, h => by
    simp only [opdL, freeL, Bool.and_eq_true] at h
    simp only [opdL, Rl, List.map_cons]
    exact ⟨_, _, rfl, opd_ok hi x h.1, opdL_ok hi xs l (n + 1) h.2⟩
theorem val_makeFunc (hi : Inv c γ st a w) {fn : Fn} {first caps : Array Operand} {y : AV} {st1 : St} (ho : o.op = .makeFunc fn first caps) (h : stepV env st o.op = some (y, st1)) : Val c γ st st1 a w o y := by
  rw [ho] at h
  simp only [stepV] at h
  split at h
  · rename_i f
    cases hk : okCaps (opdL st first.toList) && okCaps (opdL st caps.toList) with
    | false => rw [hk] at h; cases h
    | true =>
      rw [hk] at h
      cases h
      simp only [Bool.and_eq_true] at hk
      refine val_same hi (v := .func (.func f) (first.map a.eval) (caps.map a.eval)) ?_ (.free ?_ (by simp) (by simp))
      · simp [execOp, ho, Instr.makeFunc]
      · simp only [R]
        refine ⟨_, _, rfl, ?_, ?_⟩
        · simpa using opdL_ok hi first.toList (lim 0) 0 (okCaps_free _ hk.1)
        · simpa using opdL_ok hi caps.toList (lim 0) _ (okCaps_free _ hk.2)
  · cases h
theorem sub_off {l : Loc} {k m : Nat} (h : k ≠ m) : ∀ q r, (⟨(l.sub k).base, (l.sub k).path ++ q⟩ : Loc) ≠ ⟨(l.sub m).base, (l.sub m).path ++ r⟩ := by
  intro q r e
  simp only [Loc.sub] at e
  injection e with _ e
  rw [List.append_assoc, List.append_assoc] at e
  have := List.append_cancel_left e
  simp at this
  exact h this.1
theorem Rl_set_gone {γ : Gh} {w : World} {l l' : Loc} : ∀ (xs : List AV) (n i : Nat) (vs : List Value), Rl γ w l n xs vs → Rl (γ.mv (l.sub (n + i)) l') w l n (xs.set i .gone) vs
  | [], n, i, vs, h => by simpa [Rl] using h
  | x :: xs, n, 0, vs, h => by
    simp only [Rl] at h
    obtain ⟨v, vs', rfl, h1, h2⟩ := h
    simp only [List.set_cons_zero, Rl]
    exact ⟨v, vs', rfl, by simp only [R], Rl_keepEach xs (fun m hm => (Frz.mv γ w _ l').keeps (sub_off (by omega))) h2⟩
  | x :: xs, n, i + 1, vs, h => by
    simp only [Rl] at h
    obtain ⟨v, vs', rfl, h1, h2⟩ := h
    simp only [List.set_cons_succ, Rl]
    refine ⟨v, vs', rfl, R_keep x ((Frz.mv γ w _ l').keeps (sub_off (by omega))) v h1, ?_⟩
    have := Rl_set_gone (l' := l') xs (n + 1) i vs' h2
    rwa [show n + 1 + i = n + (i + 1) by omega] at this
/-- a part of a result goes on its way -/
theorem val_extract (hi : Inv c γ st a w) {x : Operand} {i : Nat} {y : AV} {st1 : St} (ho : o.op = .extract x i) (h : stepV env st o.op = some (y, st1)) : Val c γ st st1 a w o y := by
  rw [ho] at h
  simp only [stepV] at h
  split at h
  · rename_i t
    split at h
    · rename_i xs hx
      cases hy : lget xs i with
      | none => rw [hy] at h; cases h
      | some v =>
        rw [hy] at h
        simp only at h
        cases hna : v.isAl with
        | true => rw [hna] at h; cases h
        | false =>
          rw [hna] at h
          simp only [cond_false, Option.some.injEq, Prod.mk.injEq] at h
          obtain ⟨rfl, hst⟩ := h
          rw [lget_eq] at hy
          have hr := hi.fm.val t
          rw [hx] at hr
          simp only [R] at hr
          obtain ⟨cs, e, hl⟩ := hr
          obtain ⟨u, k1, k2⟩ := Rl_get xs hl i v hy
          rw [Nat.zero_add] at k2
          have e' : a.eval (.tmp t) = .tuple cs := e
          have k1' : cs[i]? = some u := by simpa using k1
          cases hk : v.keepable with
          | true =>
            rw [hk] at hst
            cases hst
            obtain ⟨q1, q2⟩ := keep_free hk
            refine ⟨u, w, _, ?_, hi, .refl .., .free (R_free (KeepsF.refl γ) _ _ q1 k2) (by intro _ _ _ _ e; subst e; cases q2) (by intro _ _ _ e; subst e; cases q2)⟩
            simp only [execOp, ho, e', Instr.extract, k1', Sem.run_bind, Sem.run_pure, Result.andThen_ok]
          | false =>
          rw [hk] at hst
          cases hst
          have f := Frz.mv γ w (Loc.sub ⟨.slot t, []⟩ i) (lim 0)
          have hl' := Rl_set_gone (l' := lim 0) xs 0 i cs.toList hl
          rw [Nat.zero_add] at hl'
          have fw : Frz γ (γ.mv (Loc.sub ⟨.slot t, []⟩ i) (lim 0)) w ⟨.slot t, []⟩ := f.wider
          have hI : Inv c (γ.mv (Loc.sub ⟨.slot t, []⟩ i) (lim 0)) { st with fr := (t, .tup (lset xs i .gone)) :: st.fr } a w := by
            refine turn_slot hi fw ?_ (fun z xs p e => by cases e) (fun h => by rw [hx] at h; cases h) (fun _ _ _ _ h => by cases h) (fun _ _ _ h => by cases h)
            simp only [R, lset_eq]
            exact ⟨cs, e, hl'⟩
          refine ⟨u, w, _, ?_, hI, fw.ext rfl, .free (R_keep _ (mv_keeps_to γ w _ _) _ k2) (by intro _ _ _ _ e; subst e; cases hna) (by intro _ _ _ e; subst e; cases hna)⟩
          simp only [execOp, ho, e', Instr.extract, k1', Sem.run_bind, Sem.run_pure, Result.andThen_ok]
    · cases h
  · cases h
end
end Go.Va
