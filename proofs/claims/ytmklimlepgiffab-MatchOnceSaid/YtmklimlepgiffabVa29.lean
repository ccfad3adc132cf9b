/- The verified abstract interpreter, a part of it: no statement of its own. -/
import Derived.Test.YtmklimlepgiffabVa28
set_option linter.unusedVariables false
set_option linter.unusedSimpArgs false
set_option linter.unusedVariables false
namespace Go.Va
theorem fget_dropAl (m : List Nat) (t : Nat) : ∀ fr : Fr, fget (dropAl m fr) t = bif (fget fr t).atObj m then .unk else fget fr t
  | [] => by simp [dropAl, fget, AV.atObj]
  | (u, v) :: fr => by
    simp only [dropAl, fget]
    cases Nat.beq u t with
    | true => rfl
    | false => exact fget_dropAl m t fr
theorem dropAl_nil : ∀ fr : Fr, dropAl [] fr = fr
  | [] => rfl
  | (u, v) :: fr => by
    simp only [dropAl, dropAl_nil fr]
    have : v.atObj [] = false := by
      unfold AV.atObj
      split <;> first | rfl | simp [hasN]
    rw [this]; rfl
theorem atObj_cases {v : AV} {m : List Nat} (h : v.atObj m = true) : v.owner = false ∧ v ≠ .unk := by
  unfold AV.atObj at h
  split at h
  · exact ⟨rfl, by simp⟩
  · exact ⟨rfl, by simp⟩
  · cases h
theorem allSegOk_get : ∀ {O : Seg}, allSegOk O = true → ∀ (j : Nat) (o : Obj), O[j]? = some o → allCellOk o = true
  | [], _, j, o, e => by simp at e
  | p :: O, h, j, o, e => by
    simp only [allSegOk, Bool.and_eq_true] at h
    cases j with
    | zero => simp at e; subst e; exact h.1
    | succ j => exact allSegOk_get h.2 j o (by simpa using e)
section
variable {c : Cx} {γ γ' : Gh} {st : St} {a : Act} {w w' : World} {o : Oper} {env : Env} {i : Nat}
theorem ret_ok (hi : Inv c γ st a w) {m : List Nat} {O0 O2 : Seg} {v : AV} {r : Value} (hm : m.Nodup) (hO : renObjs m st.O m = some O0)
    (wd : Wd c γ' w') (hp : Hp γ' { n := 0, k := m.length, fr := [], O := O2 } w') (ext : Ext (γ.ent w m) { n := 0, k := m.length, fr := [], O := O0 } w γ' { n := 0, k := m.length, fr := [], O := O2 } w')
    (hr : R γ' w' (lim 0) v r) (hv : v.resOk = true) (hs : allSegOk O2 = true) :
    Inv c (γ.ret γ' m st.O.length) { st with fr := dropAl m st.fr, O := putBack m st.O.length m O2 st.O } a w' ∧
      Ext γ st w (γ.ret γ' m st.O.length) { st with fr := dropAl m st.fr, O := putBack m st.O.length m O2 st.O } w' ∧ R (γ.ret γ' m st.O.length) w' (lim 0) (v.renB m st.O.length) r := by
  have hlt : ∀ i ∈ m, i < st.O.length := by
    intro i hmem
    obtain ⟨j, hj⟩ := List.getElem?_of_mem hmem
    obtain ⟨hl, hg⟩ := renObjs_get m hO
    have hj' : j < O0.length := by
      rw [hl]
      by_cases k : j < m.length
      · exact k
      · rw [List.getElem?_eq_none (by omega)] at hj; cases hj
    obtain ⟨i', o, e1, e2, _⟩ := hg j O0[j] (by simp [hj'])
    rw [hj] at e1; cases e1
    by_cases k : i < st.O.length
    · exact k
    · rw [List.getElem?_eq_none (by omega)] at e2; cases e2
  have hk : m.length ≤ O2.length := hp.k
  obtain ⟨p1, p2, p3⟩ := putBack_get (m := m) (base := st.O.length) m O2 st.O hm hlt hk
  -- what isn't handed over stays
  have ro_of : ∀ b, (∀ o, γ.cls b ≠ .imm o) → (γ.ent w m).cls b = roAt w b → γ.cls b ≠ .other → (γ.ret γ' m st.O.length).cls b = γ.cls b ∧ w'.heap[b]? = w.heap[b]? := by
    intro b _ h1 h2
    obtain ⟨o, k1, k2⟩ := heap_some hi.wd h2
    have e := ext.ro b o (h1.trans k2)
    refine ⟨by simp only [Gh.ret, e, retC], ?_⟩
    rw [wd.still b o (.inr e), k1]
  have f_imm : ∀ b o, γ.cls b = .imm o → (γ.ret γ' m st.O.length).cls b = .imm o := by
    intro b o e
    have := ext.imm b o (by simp only [Gh.ent, e, entC])
    simp only [Gh.ret, this, retC]
  have f_ro : ∀ b o, γ.cls b = .ro o → (γ.ret γ' m st.O.length).cls b = .ro o := by
    intro b o e
    have := ext.ro b o (by simp only [Gh.ent, e, entC])
    simp only [Gh.ret, this, retC, e]
  have f_rev : ∀ b o, (γ.ret γ' m st.O.length).cls b = .ro o → γ.cls b = .ro o := by
    intro b o e
    simp only [Gh.ret] at e
    cases h : γ'.cls b with
    | ro o' => rw [h] at e; exact e
    | own l =>
      rw [h] at e
      obtain ⟨base, p⟩ := l
      cases base <;> cases e
    | _ => rw [h] at e; cases e
  have f_slot : ∀ b t p, γ.cls b = .own ⟨.slot t, p⟩ → (γ.ret γ' m st.O.length).cls b = .own ⟨.slot t, p⟩ ∧ w'.heap[b]? = w.heap[b]? := by
    intro b t p e
    have := ro_of b (by rw [e]; simp) (by simp only [Gh.ent, e, entC]) (by rw [e]; simp)
    rw [e] at this; exact this
  have f_cell : ∀ b i off p, γ.cls b = .own ⟨.cell i off, p⟩ → posN i m = none → (γ.ret γ' m st.O.length).cls b = .own ⟨.cell i off, p⟩ ∧ w'.heap[b]? = w.heap[b]? := by
    intro b i off p e h
    have := ro_of b (by rw [e]; simp) (by simp only [Gh.ent, e, entC, h]) (by rw [e]; simp)
    rw [e] at this; exact this
  have f_obj : ∀ b i, γ.cls b = .obj i → posN i m = none → (γ.ret γ' m st.O.length).cls b = .obj i ∧ w'.heap[b]? = w.heap[b]? := by
    intro b i e h
    have := ro_of b (by rw [e]; simp) (by simp only [Gh.ent, e, entC, h]) (by rw [e]; simp)
    rw [e] at this; exact this
  have obl : ∀ {i b}, γ.ob i = some b → i < st.O.length := by
    intro i b e
    by_cases k : i < st.O.length
    · exact k
    · rw [hi.hp.fresh i (by omega)] at e; cases e
  have f_ob : ∀ i b, γ.ob i = some b → (γ.ret γ' m st.O.length).ob i = some b := by
    intro i b e
    simp only [Gh.ret, if_pos (obl e)]; exact e
  have obj' : ∀ j, j < m.length → γ'.ob j = (m[j]?).bind γ.ob := by
    intro j h
    rw [ext.ob j h]
    simp only [Gh.ent, lget_eq]
  have f_back : ∀ j b, γ'.ob j = some b → (γ.ret γ' m st.O.length).ob (back m st.O.length j) = some b := by
    intro j b e
    simp only [back, lget_eq]
    by_cases h : j < m.length
    · rw [obj' j h] at e
      cases hj : m[j]? with
      | none => rw [hj] at e; cases e
      | some i =>
        rw [hj] at e
        simp only [Option.bind_some] at e
        exact f_ob i b e
    · rw [List.getElem?_eq_none (by omega)]
      simp only [Gh.ret]
      rw [if_neg (by omega), show m.length + (st.O.length + (j - m.length) - st.O.length) = j by omega]
      exact e
  have kb : ∀ {l l' : Loc}, (∀ b q, γ'.cls b = .own ⟨l.base, l.path ++ q⟩ → (γ.ret γ' m st.O.length).cls b = .own ⟨l'.base, l'.path ++ q⟩) → KeepsB γ' (γ.ret γ' m st.O.length) w' w' l l' (back m st.O.length) := fun {l l'} h =>
    ⟨fun b o e => by simp only [Gh.ret, e, retC], fun b q e => ⟨h b q e, rfl⟩, f_back⟩
  have kcell : ∀ j off, KeepsB γ' (γ.ret γ' m st.O.length) w' w' ⟨.cell j off, []⟩ ⟨.cell (back m st.O.length j) off, []⟩ (back m st.O.length) := fun j off => kb (fun b q e => by simp only [Gh.ret, e, retC])
  have ks : ∀ t, Keeps γ (γ.ret γ' m st.O.length) w w' ⟨.slot t, []⟩ ⟨.slot t, []⟩ := fun t => ⟨f_imm, f_ro, fun b q e => f_slot b t _ e, f_ob⟩
  have kc : ∀ i off, posN i m = none → Keeps γ (γ.ret γ' m st.O.length) w w' ⟨.cell i off, []⟩ ⟨.cell i off, []⟩ := fun i off h => ⟨f_imm, f_ro, fun b q e => f_cell b i off _ e h, f_ob⟩
  -- objects
  have hat : ∀ i, i < st.O.length → posN i m = none → objAt { st with fr := dropAl m st.fr, O := putBack m st.O.length m O2 st.O } i = objAt st i := by
    intro i h hn
    simp only [objAt, lget_eq]
    rw [p2 i h, hn]
  have cells_of : ∀ (j : Nat) (p : Obj), O2[j]? = some p → ∃ b cs e, (γ.ret γ' m st.O.length).ob (back m st.O.length j) = some b ∧ (γ.ret γ' m st.O.length).cls b = .obj (back m st.O.length j) ∧ w'.heap[b]? = some (.cells cs e (0, 0)) ∧ cs.size = (AV.renB.renBL m st.O.length p).length ∧ bldOk e (AV.renB.renBL m st.O.length p).length = true ∧
      ∀ q x, (AV.renB.renBL m st.O.length p)[q]? = some x → ∃ u, cs[q]? = some u ∧ one u ∧ R (γ.ret γ' m st.O.length) w' ⟨.cell (back m st.O.length j) q, []⟩ x u := by
    intro j p e
    obtain ⟨b, cs, el, h1, h2, h3, h4, hbe, h5⟩ := hp.obj j p (by simp only [objAt, lget_eq]; exact e)
    refine ⟨b, cs, el, f_back j b h1, by simp only [Gh.ret, h2, retC], h3, by rw [renBL_eq, List.length_map]; exact h4, by rw [renBL_eq, List.length_map]; exact hbe, fun q x hx => ?_⟩
    rw [renBL_eq, List.getElem?_map] at hx
    cases hy : p[q]? with
    | none => rw [hy] at hx; cases hx
    | some y =>
      rw [hy] at hx
      simp only [Option.map_some, Option.some.injEq] at hx
      subst hx
      obtain ⟨u, u1, u2, u3⟩ := h5 q y hy
      exact ⟨u, u1, u2, back_cell (kcell j q) (allCellOk_get p (allSegOk_get hs j p e) q y hy) u3⟩
  refine ⟨⟨?_, ⟨?_, ?_, ?_, ?_⟩, ⟨?_, ?_, ?_, hi.fm.n, hi.fm.defers⟩⟩, ⟨f_imm, f_ro, f_rev, ?_, ext.size, rfl, ?_⟩, ?_⟩
  · refine ⟨fun b o e => ?_, fun b hb => ?_, fun b hb => ?_, Nat.le_trans hi.wd.size ext.size, wd.os, wd.tape, wd.out⟩
    · rcases e with e | e
      · simp only [Gh.ret] at e
        cases h : γ'.cls b with
        | imm o' => rw [h] at e; cases e; exact wd.still b o (.inl h)
        | ro o' =>
          rw [h] at e
          have e : γ.cls b = .imm o := e
          have := ext.imm b o (by simp only [Gh.ent, e, entC])
          rw [h] at this; cases this
        | own l =>
          rw [h] at e
          obtain ⟨base, p⟩ := l
          cases base <;> cases e
        | _ => rw [h] at e; cases e
      · have e := f_rev b o e
        exact wd.still b o (.inr (ext.ro b o (by simp only [Gh.ent, e, entC])))
    · obtain ⟨o, e1, e2⟩ := hi.wd.low b hb
      exact ⟨o, e1, f_imm b o e2⟩
    · simp only [Gh.ret, wd.new b hb, retC]
  · intro i o e
    simp only [objAt, lget_eq] at e
    by_cases h : i < st.O.length
    · rw [p2 i h] at e
      cases hp' : posN i m with
      | some j =>
        rw [hp'] at e
        simp only at e
        cases hj : O2[j]? with
        | none => rw [hj] at e; cases e
        | some p =>
          rw [hj] at e
          simp only [Option.map_some, Option.some.injEq] at e
          subst e
          have := cells_of j p hj
          simp only [back, lget_eq, posN_some hp'] at this
          exact this
      | none =>
        rw [hp'] at e
        simp only at e
        obtain ⟨b, cs, el, h1, h2, h3, h4, hbe, h5⟩ := hi.hp.obj i o (by simp only [objAt, lget_eq]; exact e)
        obtain ⟨k1, k2⟩ := f_obj b i h2 hp'
        refine ⟨b, cs, el, f_ob i b h1, k1, k2.trans h3, h4, hbe, fun j x hx => ?_⟩
        obtain ⟨u, u1, u2, u3⟩ := h5 j x hx
        exact ⟨u, u1, u2, R_keep x (kc i j hp') u u3⟩
    · obtain ⟨q, rfl⟩ : ∃ q, i = st.O.length + q := ⟨i - st.O.length, by omega⟩
      rw [p3 q] at e
      cases hj : O2[m.length + q]? with
      | none => rw [hj] at e; cases e
      | some p =>
        rw [hj] at e
        simp only [Option.map_some, Option.some.injEq] at e
        subst e
        have := cells_of (m.length + q) p hj
        have hb : back m st.O.length (m.length + q) = st.O.length + q := by
          simp only [back, lget_eq]
          rw [List.getElem?_eq_none (by omega)]
          simp only
          omega
        rw [hb] at this
        exact this
  · intro i h
    simp only [] at h
    have h : (putBack m st.O.length m O2 st.O).length ≤ i := h
    rw [p1] at h
    simp only [Gh.ret]
    rw [if_neg (by omega)]
    exact hp.fresh _ (by simp only []; omega)
  · intro i b e
    simp only [Gh.ret] at e
    by_cases h : i < st.O.length
    · rw [if_pos h] at e
      have e2 := hi.hp.back i b e
      cases hp' : posN i m with
      | none => exact (f_obj b i e2 hp').1
      | some j =>
        have hj := posN_some hp'
        have hjl : j < m.length := by
          by_cases k : j < m.length
          · exact k
          · rw [List.getElem?_eq_none (by omega)] at hj; cases hj
        have : γ'.ob j = some b := by rw [obj' j hjl, hj]; exact e
        have := hp.back j b this
        simp only [Gh.ret, this, retC, back, lget_eq, hj]
    · rw [if_neg h] at e
      have := hp.back _ b e
      simp only [Gh.ret, this, retC, back, lget_eq]
      rw [List.getElem?_eq_none (by omega)]
      simp only [Cls.obj.injEq]
      omega
  · show st.k ≤ (putBack m st.O.length m O2 st.O).length
    rw [p1]
    have := hi.hp.k
    omega
  · intro t
    show R _ w' _ (fget (dropAl m st.fr) t) _
    rw [fget_dropAl]
    cases (fget st.fr t).atObj m with
    | true => simp only [cond_true, R]
    | false => exact R_keep _ (ks t) _ (hi.fm.val t)
  · intro t z h lo len e
    have e : fget (dropAl m st.fr) t = .al z h lo len := e
    rw [fget_dropAl] at e
    cases hat' : (fget st.fr t).atObj m with
    | true => rw [hat'] at e; cases e
    | false =>
      rw [hat'] at e
      have e : fget st.fr t = .al z h lo len := e
      obtain ⟨k1, k2⟩ := hi.fm.al t z h lo len e
      cases h with
      | slot u =>
        have k1' : (fget st.fr u).owner = true := k1
        have : homeGet { st with fr := dropAl m st.fr, O := putBack m st.O.length m O2 st.O } (.slot u) = homeGet st (.slot u) := by
          show fget (dropAl m st.fr) u = fget st.fr u
          rw [fget_dropAl]
          cases hq : (fget st.fr u).atObj m with
          | true => rw [(atObj_cases hq).1] at k1'; cases k1'
          | false => rfl
        rw [this]
        exact ⟨k1, k2⟩
      | cell i off =>
        have hn : posN i m = none := by
          cases hp' : posN i m with
          | none => rfl
          | some j =>
            have := hasN_t.2 (List.mem_of_getElem? (posN_some hp'))
            rw [e] at hat'
            simp only [AV.atObj, this] at hat'
            cases hat'
        have hil : i < st.O.length := by
          simp only [homeGet] at k1
          cases ho : objAt st i with
          | none => rw [ho] at k1; cases k1
          | some o => exact objAt_lt ho
        have h1 : homeGet { st with fr := dropAl m st.fr, O := putBack m st.O.length m O2 st.O } (.cell i off) = homeGet st (.cell i off) := by
          simp only [homeGet, hat i hil hn]
        have h2 : homeVal (γ.ret γ' m st.O.length) a w' (.cell i off) = homeVal γ a w (.cell i off) := by
          simp only [homeVal, Gh.ret, if_pos hil]
          cases hb : γ.ob i with
          | none => rfl
          | some b => simp only [Option.bind_some, World.cell?]; rw [(f_obj b i (hi.hp.back i b hb) hn).2]
        rw [h1, h2]
        exact ⟨k1, k2⟩
  · intro t h j1 off1 e
    have e : fget (dropAl m st.fr) t = .ep h j1 off1 := e
    rw [fget_dropAl] at e
    cases hat' : (fget st.fr t).atObj m with
    | true => rw [hat'] at e; cases e
    | false =>
      rw [hat'] at e
      have e : fget st.fr t = .ep h j1 off1 := e
      obtain ⟨k1, k2⟩ := hi.fm.ep t h j1 off1 e
      cases h with
      | slot u =>
        have k1' : (fget st.fr u).owner = true := k1
        have : homeGet { st with fr := dropAl m st.fr, O := putBack m st.O.length m O2 st.O } (.slot u) = homeGet st (.slot u) := by
          show fget (dropAl m st.fr) u = fget st.fr u
          rw [fget_dropAl]
          cases hq : (fget st.fr u).atObj m with
          | true => rw [(atObj_cases hq).1] at k1'; cases k1'
          | false => rfl
        rw [this]
        exact ⟨k1, k2⟩
      | cell i off =>
        have hn : posN i m = none := by
          cases hp' : posN i m with
          | none => rfl
          | some j =>
            have := hasN_t.2 (List.mem_of_getElem? (posN_some hp'))
            rw [e] at hat'
            simp only [AV.atObj, this] at hat'
            cases hat'
        have hil : i < st.O.length := by
          simp only [homeGet] at k1
          cases ho : objAt st i with
          | none => rw [ho] at k1; cases k1
          | some o => exact objAt_lt ho
        have h1 : homeGet { st with fr := dropAl m st.fr, O := putBack m st.O.length m O2 st.O } (.cell i off) = homeGet st (.cell i off) := by
          simp only [homeGet, hat i hil hn]
        have h2 : homeVal (γ.ret γ' m st.O.length) a w' (.cell i off) = homeVal γ a w (.cell i off) := by
          simp only [homeVal, Gh.ret, if_pos hil]
          cases hb : γ.ob i with
          | none => rfl
          | some b => simp only [Option.bind_some, World.cell?]; rw [(f_obj b i (hi.hp.back i b hb) hn).2]
        rw [h1, h2]
        exact ⟨k1, k2⟩
  · intro b hb e
    have e1 : (γ.ent w m).cls b = .other := by simp only [Gh.ent, e, entC]
    obtain ⟨e2, e3⟩ := ext.other b hb e1
    exact ⟨by simp only [Gh.ret, e2, retC], e3⟩
  · intro i h
    have := hi.hp.k
    simp only [Gh.ret]
    rw [if_pos (by omega)]
  · exact back_res (kb (fun b q e => by simp only [Gh.ret, e, retC])) hv hr
end
end Go.Va
