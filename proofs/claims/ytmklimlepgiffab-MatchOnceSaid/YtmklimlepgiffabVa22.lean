/- The verified abstract interpreter, a part of it: no statement of its own. -/
import Derived.Test.YtmklimlepgiffabVa21
set_option linter.unusedVariables false
set_option linter.unusedSimpArgs false
set_option linter.unusedVariables false
namespace Go.Va
section
variable {c : Cx} {γ : Gh} {st : St} {a : Act} {w : World} {o : Oper} {env : Env} {i : Nat}

theorem write_cell {off b : Nat} {cs : Array Value} {ob : Obj} {x x0 : AV} {v : Value} (hi : Inv c γ st a w) (hob : objAt st i = some ob) (hx : ob[off]? = some x0) (hb : γ.cls b = .own ⟨.cell i off, []⟩)
    (hv : homeVal γ a w (.cell i off) = some v) (hr : R γ (w.setRow b cs) ⟨.cell i off, []⟩ x v)
    (hs : ∀ z xs p, x = .sl z xs p → ∃ xs' p', x0 = .sl z xs' p' ∧ xs'.length = xs.length) (how : x0.owner = true → x.owner = true) :
    Inv c γ (setObj st i (lset ob off x)) a (w.setRow b cs) ∧ Ext γ st w γ (setObj st i (lset ob off x)) (w.setRow b cs) := by
  have hlen : off < ob.length := by
    by_cases k : off < ob.length
    · exact k
    · rw [List.getElem?_eq_none (by omega)] at hx; cases hx
  have hget : ((lset ob off x)[off]?).getD .unk = x := by rw [lset_eq, List.getElem?_set]; simp [hlen]
  have hne : ∀ {i b'}, γ.ob i = some b' → b' ≠ b := by
    rintro i b' e rfl
    have := hi.hp.back i b' e
    rw [hb] at this; cases this
  have hV : ∀ h, homeVal γ a (w.setRow b cs) h = homeVal γ a w h := by
    intro h
    cases h with
    | slot => rfl
    | cell i off =>
      simp only [homeVal]
      cases hob : γ.ob i with
      | none => rfl
      | some b' => simp only [Option.bind_some, World.cell?]; rw [setRow_other w b b' cs (hne hob)]
  have hold : ∀ j, homeGet st (.cell i j) = (ob[j]?).getD .unk := fun j => homeGet_cell hob
  refine ⟨turn_obj hi hob (row_wd hi.wd (by intro o; rw [hb]; simp)) rfl (fun i b e => hi.hp.back i b e) ?_ (fun i' b' e _ => setRow_other w b b' cs (hne e)) (fun i' j y u hn h => R_keep y (row_keeps (by intro q; rw [hb]; simp; exact fun k => (hn k.symm).elim)) u h)
    (fun t y u h => R_keep y (row_keeps (by intro q; rw [hb]; simp)) u h) ?_ ?_, row_ext (by rw [hb]; simp) rfl⟩
  · obtain ⟨b', cs', el, h1, h2, h3, h4, hbe, h5⟩ := hi.hp.obj i ob hob
    refine ⟨b', cs', el, h1, by rw [setRow_other w b b' cs (hne h1)]; exact h3, by rw [lset_eq]; simpa using h4, by rw [lset_eq, List.length_set]; exact hbe, fun j y hy => ?_⟩
    rw [lset_eq, List.getElem?_set] at hy
    by_cases k : off = j
    · subst k
      rw [if_pos rfl, if_pos hlen] at hy
      cases hy
      obtain ⟨u, u1, u2, u3⟩ := h5 off x0 hx
      have : u = v := by
        have : homeVal γ a w (.cell i off) = some u := by simp only [homeVal, h1, Option.bind_some, cell_of h3]; exact u1
        rw [hv] at this; cases this; rfl
      subst this
      exact ⟨u, u1, u2, hr⟩
    · rw [if_neg k] at hy
      obtain ⟨u, u1, u2, u3⟩ := h5 j y hy
      exact ⟨u, u1, u2, R_keep y (row_keeps (by intro q; rw [hb]; simp; exact fun k' => (k k').elim)) u u3⟩
  · intro t z off' lo len e
    obtain ⟨k1, k2⟩ := hi.fm.al t z _ lo len e
    rw [hold] at k1 k2
    rw [hV]
    by_cases k : off = off'
    · subst k
      rw [hget]
      rw [hx] at k1 k2
      refine ⟨how k1, k2.1, ?_⟩
      intro z' xs p e' u hu
      obtain ⟨xs', p', e2, el⟩ := hs z' xs p e'
      have := k2.2 z' xs' p' e2 u hu
      rw [el] at this
      exact this
    · rw [lset_eq, List.getElem?_set, if_neg k]
      exact ⟨k1, k2⟩
  · intro t off' j kk e
    obtain ⟨k1, k2⟩ := hi.fm.ep t _ j kk e
    rw [hold] at k1 k2
    rw [hV]
    by_cases k : off = off'
    · subst k
      rw [hget]
      rw [hx] at k1 k2
      refine ⟨how k1, k2.1, ?_⟩
      intro z' xs p e' u hu
      obtain ⟨xs', p', e2, el⟩ := hs z' xs p e'
      have := k2.2 z' xs' p' e2 u hu
      rw [el] at this
      exact this
    · rw [lset_eq, List.getElem?_set, if_neg k]
      exact ⟨k1, k2⟩
theorem write_home {h : Home} {b : Nat} {cs : Array Value} {z : Nat} {xs xs' : List AV} {v : Value} (hi : Inv c γ st a w) (hx : homeGet st h = .sl z xs .full) (hb : γ.cls b = .own (homeLoc h))
    (hv : homeVal γ a w h = some v) (hr : R γ (w.setRow b cs) (homeLoc h) (.sl z xs' .full) v) (hl : xs.length = xs'.length) :
    Inv c γ (homePut st h (.sl z xs' .full)) a (w.setRow b cs) ∧ Ext γ st w γ (homePut st h (.sl z xs' .full)) (w.setRow b cs) := by
  cases h with
  | slot t =>
    cases hv
    exact write_slot hi hb hr (fun z1 xs1 p1 e => by cases e; exact ⟨xs, _, hx, hl⟩) (fun _ => rfl) rfl
  | cell i off =>
    simp only [homeGet] at hx
    cases ho : objAt st i with
    | none => rw [ho] at hx; cases hx
    | some ob =>
      rw [ho] at hx
      simp only [lget_eq] at hx
      cases hy : ob[off]? with
      | none => rw [hy] at hx; cases hx
      | some y =>
        rw [hy] at hx
        simp only at hx
        subst hx
        simp only [homePut, ho]
        exact write_cell hi ho hy hb hv hr (fun z1 xs1 p1 e => by cases e; exact ⟨xs, _, rfl, hl⟩) (fun _ => rfl)
end
end Go.Va
set_option linter.unusedVariables false
namespace Go.Va
theorem Dl_app {cls : Nat → Cls} : ∀ (xs ys : List AV) (us vs : List Value), Dl cls xs us → Dl cls ys vs → Dl cls (xs ++ ys) (us ++ vs)
  | [], ys, us, vs, h, k => by simp only [Dl] at h; subst h; simpa using k
  | x :: xs, ys, us, vs, h, k => by
    simp only [Dl] at h
    obtain ⟨v, us', rfl, h1, h2, h3⟩ := h
    simp only [List.cons_append, Dl]
    exact ⟨v, _, rfl, h1, h2, Dl_app xs ys us' vs h3 k⟩
theorem Dl_take {cls : Nat → Cls} : ∀ (n : Nat) (xs : List AV) (vs : List Value), Dl cls xs vs → Dl cls (xs.take n) (vs.take n)
  | 0, xs, vs, h => by simp [Dl]
  | n + 1, [], vs, h => by simp only [Dl] at h; subst h; simp [Dl]
  | n + 1, x :: xs, vs, h => by
    simp only [Dl] at h
    obtain ⟨v, vs', rfl, hf, h1, h2⟩ := h
    simp only [List.take_succ_cons, Dl]
    exact ⟨v, _, rfl, hf, h1, Dl_take n xs vs' h2⟩
/-- a part of one element is written -/
theorem El.part {cls : Nat → Cls} {xs : List AV} {z j off : Nat} {cs us vs : List Value} {x' : AV} (h : El cls xs z cs.toArray 0) (hj : j < xs.length) (hs : cs.length ≥ xs.length * z) (hv : ∀ i v, vs[i]? = some v → cs[j * z + i]? = some v) (hvz : vs.length = z)
    (hle : off + us.length ≤ z) (hd : D cls x' (vs.take off ++ us ++ vs.drop (off + us.length))) :
    El cls (xs.set j x') z (cs.take (j * z + off) ++ us ++ cs.drop (j * z + off + us.length)).toArray 0 := by
  have hb : j * z + z ≤ xs.length * z := by
    have : (j + 1) * z ≤ xs.length * z := Nat.mul_le_mul_right _ (by omega)
    rwa [Nat.add_mul, Nat.one_mul] at this
  have hg := fun m => row_get (cs := cs) (us := us) (off := j * z + off) (by omega) m
  intro k x hx
  rw [List.getElem?_set] at hx
  by_cases e : j = k
  · subst e
    rw [if_pos rfl, if_pos hj] at hx
    cases hx
    refine ⟨_, hd, by simp; omega, fun i v hi => ?_⟩
    rw [row_get (by omega)] at hi
    simp only [List.getElem?_toArray, Nat.zero_add, hg]
    by_cases q : off ≤ i ∧ i < off + us.length
    · rw [if_pos q] at hi
      rw [if_pos (by omega), show j * z + i - (j * z + off) = i - off by omega]
      exact hi
    · rw [if_neg q] at hi
      rw [if_neg (by omega)]
      exact hv i v hi
  · rw [if_neg e] at hx
    obtain ⟨ws, h1, h2, h3⟩ := h k x hx
    refine ⟨ws, h1, h2, fun i v hi => ?_⟩
    have hiz : i < z := by
      rw [← h2]
      by_cases q : i < ws.length
      · exact q
      · rw [List.getElem?_eq_none (by omega)] at hi; cases hi
    have := h3 i v hi
    simp only [List.getElem?_toArray, Nat.zero_add] at this ⊢
    rw [hg, if_neg]
    · exact this
    · rcases Nat.lt_or_gt_of_ne e with q | q
      · have : (j + 1) * z ≤ k * z := Nat.mul_le_mul_right _ (by omega)
        rw [Nat.add_mul] at this
        omega
      · have : (k + 1) * z ≤ j * z := Nat.mul_le_mul_right _ (by omega)
        rw [Nat.add_mul] at this
        omega
section
variable {c : Cx} {γ : Gh} {st : St} {a : Act} {w : World} {o : Oper} {env : Env} {i : Nat}
theorem D_ones {cls : Nat → Cls} {y : AV} {vs : List Value} (h : D cls y vs) : ∀ v ∈ vs, one v := by
  have := Dl_Vl _ _ (D_cells h)
  exact (Vl_rl (γ := ⟨cls, fun _ => none⟩) (w := ⟨#[], fun _ _ => 0, 0, default, #[]⟩) (l := lim 0) _ _ 0 this).2
theorem storeE_ok (hi : Inv c γ st a w) {t : TypeId} {ty : Ty} (T : TyOk c.P t ty) {x : Operand} {h : Home} {j off : Nat} {y : AV} {u : Value} {st1 : St} (hx : opd st x = .ep h j off) (hr : R γ w (lim 0) y u) (he : storeE st ty h j off y = some st1) :
    ∃ γ' w', (Instr.storeAt t (a.eval x) u).run c.P w = .ok () w' ∧ Inv c γ' st1 a w' ∧ Ext γ st w γ' st1 w' := by
  unfold storeE at he
  split at he
  · rename_i z xs y' hg hd
    obtain ⟨γ1, f, d, hsz⟩ := data_ok hd hr
    have hI := lim_inv hi f
    obtain ⟨v, hv, hR⟩ := home_rel (h := h) hI (by rw [hg]; simp)
    rw [hg] at hR
    obtain ⟨_, _, ep⟩ := (flow_opd hI x 0 (by rw [hx]; rfl)).ep _ _ _ hx
    obtain ⟨hj, b, o0, cap, e1, e2⟩ := ep z xs _ hg v hv
    simp only [R] at hR
    rcases hR with ⟨hnil, _⟩ | ⟨b', cap', cs, el, e3, hb, hh, hs, hc, hn⟩
    · rw [hnil] at hj; simp at hj
    · rw [e1] at e3
      injection e3 with e3 _ e4
      injection e3 with e3
      injection e3 with e3 e5
      subst e3 e4 e5
      rw [Nat.zero_add] at e2
      have hE := Dn.el hn
      have hjx : xs[j]? = some xs[j] := by simp [hj]
      obtain ⟨vs, d1, d2, d3⟩ := hE j _ hjx
      have hcs : xs.length * z ≤ cs.size := by rw [hs]; exact Nat.mul_le_mul_right _ hc
      have hjz : j * z + z ≤ xs.length * z := by
        have : (j + 1) * z ≤ xs.length * z := Nat.mul_le_mul_right _ (by omega)
        rwa [Nat.add_mul, Nat.one_mul] at this
      -- what is written
      have fin : ∀ x', u.cells.size = ty.size → off + ty.size ≤ z → D γ1.cls x' (vs.take off ++ u.cells.toList ++ vs.drop (off + u.cells.toList.length)) → st1 = homePut st h (.sl z (lset xs j x') .full) →
          ∃ γ' w', (Instr.storeAt t (a.eval x) u).run c.P w = .ok () w' ∧ Inv c γ' st1 a w' ∧ Ext γ st w γ' st1 w' := by
        intro x' hus hoff hD hst
        have hrun := run_store_row (off := j * z + off) T hh hus (by omega) (D_ones d)
        have hE' := El.part (cs := cs.toList) (us := u.cells.toList) (off := off) (by simpa using hE) hj (by simpa using hcs) (fun i v e => by simpa using d3 i v e) d2 (by simp [hus]; omega) hD
        have hlen : u.cells.toList.length = ty.size := by simp [hus]
        rw [hlen] at hE'
        have key : R γ1 (w.setRow b (cs.toList.take (j * z + off) ++ u.cells.toList ++ cs.toList.drop (j * z + off + ty.size)).toArray) (homeLoc h) (.sl z (lset xs j x') .full) v := by
          simp only [R]
          right
          refine ⟨b, cap, _, el, by rw [lset_eq, List.length_set]; exact e1, hb, setRow_heap w b cs _ el (0, 0) hh, ?_, by rw [lset_eq, List.length_set]; exact hc, El.dn _ _ (by rw [lset_eq]; exact hE')⟩
          rw [← hs]
          simp
          omega
        obtain ⟨w1, w2⟩ := write_home hI hg hb hv key (by rw [lset_eq, List.length_set])
        subst hst
        exact ⟨_, _, by rw [e2]; exact hrun, w1, (f.ext rfl).trans w2⟩
      split at he
      · rename_i es hes
        rw [lget_eq, hjx] at hes
        injection hes with hes
        cases hk : Nat.beq y'.cells.length ty.size && Nat.ble (off + ty.size) es.length with
        | false => rw [hk] at he; cases he
        | true =>
          rw [hk] at he
          cases he
          simp only [Bool.and_eq_true] at hk
          have k1 := beq_t hk.1
          have k2 := ble_t hk.2
          rw [hes] at d1
          have hez : es.length = z := by have := D_len d1; rw [d2] at this; simpa [AV.cells] using this.symm
          simp only [D] at d1
          refine fin _ (by rw [← hsz, k1]) (by omega) ?_ rfl
          simp only [D, splice]
          refine Dl_app _ _ _ _ (Dl_app _ _ _ _ (Dl_take off _ _ d1) (D_cells d)) ?_
          rw [show u.cells.toList.length = y'.cells.length by simp [hsz]]
          exact Dl_drop _ _ _ d1
      · rename_i c0 hes
        rw [lget_eq, hjx] at hes
        injection hes with hes
        split at he
        · rename_i c1
          cases hk : Nat.beq ty.size 1 && Nat.beq off 0 with
          | false => rw [hk] at he; cases he
          | true =>
            rw [hk] at he
            cases he
            simp only [Bool.and_eq_true] at hk
            have k1 := beq_t hk.1
            have k2 := beq_t hk.2
            subst k2
            rw [hes] at d1
            simp only [D] at d1
            obtain ⟨rfl, _⟩ := d1
            have hz1 : z = 1 := by simpa using d2.symm
            have hus : u.cells.size = 1 := by rw [← hsz]; rfl
            refine fin (.s c1) (by rw [hus, k1]) (by omega) ?_ rfl
            have : u.cells.toList.length = 1 := by simpa using hus
            rw [this]
            simpa using d
        · cases he
      · cases he
  · cases he
end
end Go.Va
set_option linter.unusedVariables false
namespace Go.Va
section
variable {c : Cx} {γ : Gh} {st : St} {a : Act} {w : World} {o : Oper} {env : Env} {i : Nat}
theorem storeG_ok (E : EnvOk c.P env) (hi : Inv c γ st a w) {t : TypeId} {ty : Ty} (T : TyOk c.P t ty) {x y : Operand} {st1 : St} (h : storeG env.A st ty x y = some st1) :
    ∃ γ' w', (Instr.storeAt t (a.eval x) (a.eval y)).run c.P w = .ok () w' ∧ Inv c γ' st1 a w' ∧ Ext γ st w γ' st1 w' := by
  unfold storeG at h
  cases hv : valueV env.A st y with
  | none => rw [hv] at h; cases h
  | some r =>
    obtain ⟨v, st2⟩ := r
    rw [hv] at h
    simp only at h
    obtain ⟨γ1, d, r1, _⟩ := valueV_ok E.A 0 hi hv
    have fin : ∀ {st1 : St}, (∃ γ' w', (Instr.storeAt t (a.eval x) (a.eval y)).run c.P w = .ok () w' ∧ Inv c γ' st1 a w' ∧ Ext γ1 st2 w γ' st1 w') → ∃ γ' w', (Instr.storeAt t (a.eval x) (a.eval y)).run c.P w = .ok () w' ∧ Inv c γ' st1 a w' ∧ Ext γ st w γ' st1 w' := by
      rintro st1 ⟨γ', w', q1, q2, q3⟩
      exact ⟨γ', w', q1, q2, d.ext.trans q3⟩
    split at h
    · rename_i j off hx
      have hr := opd_ok (l := lim 0) d.inv x (by rw [hx]; rfl)
      rw [hx] at hr
      simp only [R] at hr
      obtain ⟨b, hb, ex⟩ := hr
      rw [ex] at fin ⊢
      exact fin (storeP_ok d.inv T r1 hb h)
    · rename_i ob hx
      exact fin (storeN_ok d.inv T hx r1 h)
    · rename_i hm j off hx
      exact fin (storeE_ok d.inv T hx r1 h)
    · cases h
theorem storeS_ok (hi : Inv c γ st a w) {t : TypeId} {ty : Ty} (T : TyOk c.P t ty) (h1 : ty.size = 1) {x : Operand} {z lo len off b : Nat} {st1 : St} (hx : opd st x = .al z (.cell i off) lo len) (hob : γ.ob i = some b)
    (h : storeS env.A st (.cell i off) z lo len i off = some st1) (hA : env.A = realAr) :
    ∃ γ' w', (Instr.storeAt t (.pointer (some ⟨b, off, none⟩)) (a.eval x)).run c.P w = .ok () w' ∧ Inv c γ' st1 a w' ∧ Ext γ st w γ' st1 w' := by
  unfold storeS at h
  split at h
  · rename_i z' xs hg
    cases hk : Nat.beq lo 0 && env.A.nle len xs.length with
    | false => rw [hk] at h; cases h
    | true =>
      rw [hk] at h
      simp only [cond_true, Option.some.injEq] at h
      simp only [Bool.and_eq_true] at hk
      have k1 := beq_t hk.1
      subst k1
      have k2 : len ≤ xs.length := by have := hk.2; rw [hA] at this; simpa [realAr] using this
      obtain ⟨u, hu, hR⟩ := home_rel (h := .cell i off) hi (by rw [hg]; simp)
      rw [hg] at hR
      obtain ⟨_, _, al⟩ := (flow_opd hi x 0 (by rw [hx]; rfl)).al _ _ _ _ hx
      obtain ⟨_, _, ha, cap, a', e1, e2, e3, _⟩ := al _ _ _ hg u hu
      have e3 := e3 rfl
      subst e3
      rw [Nat.sub_zero] at e2
      cases ho : objAt st i with
      | none => simp only [homeGet, ho] at hg; cases hg
      | some ob =>
        simp only [homeGet, ho, lget_eq] at hg
        cases hy : ob[off]? with
        | none => rw [hy] at hg; cases hg
        | some y =>
          rw [hy] at hg
          simp only at hg
          subst hg
          have hlt : off < ob.length := by
            by_cases k : off < ob.length
            · exact k
            · rw [List.getElem?_eq_none (by omega)] at hy; cases hy
          obtain ⟨b', cs, el, g1, g2, g3, g4, hbe, g5⟩ := hi.hp.obj i ob ho
          rw [hob] at g1
          cases g1
          have hone : one (a.eval x) := by rw [e2]; trivial
          have hcells : (a.eval x).cells = #[a.eval x] := by rw [e2]; rfl
          have hrun := run_store_row (b := b) (off := off) (v := a.eval x) T g3 (by rw [hcells, h1]; rfl) (by rw [h1]; omega) (by rw [hcells]; simpa using hone)
          rw [hcells, h1] at hrun
          have hfr : ∀ q, fget (killCell i off st.fr) q = fget st.fr q ∨ fget (killCell i off st.fr) q = .unk ∧ (fget st.fr q).owner = false := by
            intro q
            rw [fget_killCell]
            cases hc : (fget st.fr q).atCell i off with
            | true => exact .inr ⟨rfl, (atCell_cases hc).1⟩
            | false => exact .inl rfl
          have hK := kill_inv (fr := killCell i off st.fr) hi hfr
          have hrow := fun m => row_get (cs := cs.toList) (us := [a.eval x]) (off := off) (by simp; omega) m
          have hst : st1 = setObj { st with fr := killCell i off st.fr } i (lset ob off (.sl z' (xs.take len) .full)) := by
            rw [← h]; simp only [homePut, ho, setObj]
          subst hst
          have keep : ∀ l, Keeps γ γ w (w.setRow b (cs.toList.take off ++ [a.eval x] ++ cs.toList.drop (off + 1)).toArray) l l := fun l => row_keeps (by intro q; rw [g2]; simp)
          have hnew : R γ (w.setRow b (cs.toList.take off ++ [a.eval x] ++ cs.toList.drop (off + 1)).toArray) ⟨.cell i off, []⟩ (.sl z' (xs.take len) .full) (a.eval x) := by
            have := R_keep _ (keep ⟨.cell i off, []⟩) _ hR
            simp only [R] at this ⊢
            rcases this with ⟨rfl, e⟩ | ⟨b2, cap2, cs2, el2, q1, q2, q3, q4, q5, q6⟩
            · left
              rw [e] at e1
              injection e1 with e1 _ e4
              subst e1 e4
              have : len = 0 := by simpa using k2
              subst this
              exact ⟨by simp, e2⟩
            · right
              rw [e1] at q1
              injection q1 with q1 _ q7
              subst q1 q7
              exact ⟨b2, cap, cs2, el2, by rw [e2]; congr 1; simp; omega, q2, q3, q4, by simp; omega, Dn_take _ _ q6⟩
          refine ⟨γ, _, hrun, turn_obj hK ho (row_wd hK.wd (by intro o; rw [g2]; simp)) rfl (fun i b e => hK.hp.back i b e) ?_ ?_ (fun i' j x v _ h => R_keep x (keep _) v h) (fun t x v h => R_keep x (keep _) v h) ?_ ?_, Ext.trans (st1 := { st with fr := killCell i off st.fr }) (.fr γ st w rfl) (row_ext (by rw [g2]; simp) rfl)⟩
          · refine ⟨b, _, el, hob, setRow_heap w b cs _ el (0, 0) g3, by simp [lset_eq]; omega, by rw [lset_eq, List.length_set]; exact hbe, fun j y hy => ?_⟩
            rw [lset_eq, List.getElem?_set] at hy
            simp only [List.getElem?_toArray]
            have := hrow j
            simp only [List.length_singleton] at this
            rw [this]
            by_cases q : off = j
            · subst q
              rw [if_pos rfl, if_pos hlt] at hy
              cases hy
              exact ⟨a.eval x, by simp, hone, hnew⟩
            · rw [if_neg q] at hy
              obtain ⟨v, v1, v2, v3⟩ := g5 j y hy
              exact ⟨v, by rw [if_neg (by omega)]; simpa using v1, v2, R_keep y (keep _) v v3⟩
          · intro i' b2 q1 q2
            have q1 : γ.ob i' = some b2 := q1
            refine setRow_other w b b2 _ ?_
            rintro rfl
            have := hi.hp.back i' b2 q1
            rw [g2] at this
            cases this
            exact q2 rfl
          · intro q z1 m lo1 len1 e
            have hno : (fget st.fr q).atCell i off = false ∨ fget (killCell i off st.fr) q = .unk := by
              rw [fget_killCell]
              cases hc : (fget st.fr q).atCell i off with
              | true => exact .inr rfl
              | false => exact .inl rfl
            have e' : fget (killCell i off st.fr) q = .al z1 (.cell i m) lo1 len1 := e
            have hm : off ≠ m := by
              rintro rfl
              rcases hno with hno | hno
              · rw [fget_killCell, hno] at e'
                simp only [cond_false] at e'
                rw [e'] at hno
                simp [AV.atCell, Nat.beq_refl] at hno
              · rw [hno] at e'; cases e'
            obtain ⟨n1, n2⟩ := hK.fm.al q z1 _ lo1 len1 e
            rw [homeGet_cell (show objAt { st with fr := killCell i off st.fr } i = some ob from ho)] at n1 n2
            rw [lset_eq, List.getElem?_set, if_neg hm]
            refine ⟨n1, ?_⟩
            have : homeVal γ a (w.setRow b (cs.toList.take off ++ [a.eval x] ++ cs.toList.drop (off + 1)).toArray) (.cell i m) = homeVal γ a w (.cell i m) := by
              simp only [homeVal, hob, Option.bind_some, cell_of g3, cell_of (setRow_heap w b cs _ el (0, 0) g3), List.getElem?_toArray]
              have := hrow m
              simp only [List.length_singleton] at this
              rw [this, if_neg (by omega)]
              simp
            rw [this]
            exact n2
          · intro q m j1 k1 e
            have hno : (fget st.fr q).atCell i off = false ∨ fget (killCell i off st.fr) q = .unk := by
              rw [fget_killCell]
              cases hc : (fget st.fr q).atCell i off with
              | true => exact .inr rfl
              | false => exact .inl rfl
            have e' : fget (killCell i off st.fr) q = .ep (.cell i m) j1 k1 := e
            have hm : off ≠ m := by
              rintro rfl
              rcases hno with hno | hno
              · rw [fget_killCell, hno] at e'
                simp only [cond_false] at e'
                rw [e'] at hno
                simp [AV.atCell, Nat.beq_refl] at hno
              · rw [hno] at e'; cases e'
            obtain ⟨n1, n2⟩ := hK.fm.ep q _ j1 k1 e
            rw [homeGet_cell (show objAt { st with fr := killCell i off st.fr } i = some ob from ho)] at n1 n2
            rw [lset_eq, List.getElem?_set, if_neg hm]
            refine ⟨n1, ?_⟩
            have : homeVal γ a (w.setRow b (cs.toList.take off ++ [a.eval x] ++ cs.toList.drop (off + 1)).toArray) (.cell i m) = homeVal γ a w (.cell i m) := by
              simp only [homeVal, hob, Option.bind_some, cell_of g3, cell_of (setRow_heap w b cs _ el (0, 0) g3), List.getElem?_toArray]
              have := hrow m
              simp only [List.length_singleton] at this
              rw [this, if_neg (by omega)]
              simp
            rw [this]
            exact n2
  · cases h
end
end Go.Va
