/- The verified abstract interpreter, a part of it: no statement of its own. -/
import Derived.Test.YtmklimlepgiffabVa10
set_option linter.unusedVariables false
set_option linter.unusedSimpArgs false
set_option linter.unusedVariables false
namespace Go.Va

/-- aliases don't mind how what they stand for may be used -/
theorem al_same {hx hx' : AV} {hv : Option Value} {z lo len : Nat} {v : Value} (h : AlOk hx hv z lo len v) (hs : ∀ z xs p, hx' = .sl z xs p → ∃ p', hx = .sl z xs p') : AlOk hx' hv z lo len v := by
  refine ⟨h.1, ?_⟩
  intro z' xs p e u hu
  obtain ⟨p', e'⟩ := hs z' xs p e
  exact h.2 z' xs p' e' u hu
theorem ep_same {hx hx' : AV} {hv : Option Value} {i off : Nat} {v : Value} (h : EpOk hx hv i off v) (hs : ∀ z xs p, hx' = .sl z xs p → ∃ p', hx = .sl z xs p') : EpOk hx' hv i off v := by
  refine ⟨h.1, ?_⟩
  intro z xs p e u hu
  obtain ⟨p', e'⟩ := hs z xs p e
  exact h.2 z xs p' e' u hu

theorem turn_slot {c : Cx} {γ γ' : Gh} {st : St} {a : Act} {w : World} {t : Nat} {x : AV} (hi : Inv c γ st a w) (f : Frz γ γ' w ⟨.slot t, []⟩)
    (hv : R γ' w ⟨.slot t, []⟩ x (a.tmps.getD t undef)) (hs : ∀ z xs p, x = .sl z xs p → ∃ p', fget st.fr t = .sl z xs p')
    (ho : (fget st.fr t).owner = true → x.owner = true) (h1 : ∀ z h lo len, x ≠ .al z h lo len) (h2 : ∀ h i off, x ≠ .ep h i off) :
    Inv c γ' { st with fr := (t, x) :: st.fr } a w := by
  have hg : ∀ u, fget ((t, x) :: st.fr) u = if t = u then x else fget st.fr u := fun u => fget_cons t u _ _
  have hh : ∀ h, homeGet { st with fr := (t, x) :: st.fr } h = if h = .slot t then x else homeGet st h := by
    intro h
    cases h with
    | slot u =>
      simp only [homeGet, hg, Home.slot.injEq]
      by_cases e : t = u
      · subst e; simp
      · rw [if_neg e, if_neg (fun k => e k.symm)]
    | cell => simp only [homeGet]; rfl
  have hV : ∀ h, homeVal γ' a w h = homeVal γ a w h := by
    intro h
    cases h with
    | slot => rfl
    | cell => simp only [homeVal, f.ob]
  refine ⟨f.wd hi.wd, ?_, ⟨?_, ?_, ?_, hi.fm.n, hi.fm.defers⟩⟩
  · have := f.hp_slot hi.hp
    exact ⟨this.obj, this.fresh, this.back, this.k⟩
  · intro u
    show R γ' w ⟨.slot u, []⟩ (fget ((t, x) :: st.fr) u) _
    rw [hg]
    by_cases e : t = u
    · subst e; rw [if_pos rfl]; exact hv
    · rw [if_neg e]
      exact R_keep _ (f.keeps (by intro q r k; injection k with k1 k2; injection k1 with k1; exact e k1)) _ (hi.fm.val u)
  · intro u z h lo len he
    replace he : fget ((t, x) :: st.fr) u = .al z h lo len := he
    rw [hg] at he
    by_cases e : t = u
    · rw [if_pos e] at he; exact (h1 _ _ _ _ he).elim
    · rw [if_neg e] at he
      obtain ⟨k1, k2⟩ := hi.fm.al u z h lo len he
      rw [hh, hV]
      by_cases e : h = .slot t
      · subst e; rw [if_pos rfl]; exact ⟨ho k1, al_same k2 hs⟩
      · rw [if_neg e]; exact ⟨k1, k2⟩
  · intro u h i off he
    replace he : fget ((t, x) :: st.fr) u = .ep h i off := he
    rw [hg] at he
    by_cases e : t = u
    · rw [if_pos e] at he; exact (h2 _ _ _ he).elim
    · rw [if_neg e] at he
      obtain ⟨k1, k2⟩ := hi.fm.ep u h i off he
      rw [hh, hV]
      by_cases e : h = .slot t
      · subst e; rw [if_pos rfl]; exact ⟨ho k1, ep_same k2 hs⟩
      · rw [if_neg e]; exact ⟨k1, k2⟩

/-! ### Cells -/
theorem objAt_lt {st : St} {i : Nat} {p : Obj} (h : objAt st i = some p) : i < st.O.length := by
  simp only [objAt, lget_eq] at h
  by_cases k : i < st.O.length
  · exact k
  · rw [List.getElem?_eq_none (by omega)] at h; cases h
theorem objAt_setObj {st : St} {i : Nat} {o p : Obj} (h : objAt st i = some p) (i' : Nat) :
    objAt (setObj st i o) i' = if i' = i then some o else objAt st i' := by
  have hl := objAt_lt h
  simp only [setObj, objAt, lget_eq, lset_eq]
  rw [List.getElem?_set]
  by_cases e : i = i'
  · subst e
    simp [hl]
  · rw [if_neg e, if_neg (fun k => e k.symm)]
theorem setObj_fr (st : St) (i : Nat) (o : Obj) : (setObj st i o).fr = st.fr := rfl
theorem setObj_n (st : St) (i : Nat) (o : Obj) : (setObj st i o).n = st.n := rfl
theorem setObj_k (st : St) (i : Nat) (o : Obj) : (setObj st i o).k = st.k := rfl
theorem setObj_len (st : St) (i : Nat) (o : Obj) : (setObj st i o).O.length = st.O.length := by simp [setObj, lset_eq]
theorem homeGet_cell {st : St} {i off : Nat} {o : Obj} (h : objAt st i = some o) : homeGet st (.cell i off) = (o[off]?).getD .unk := by
  simp only [homeGet, h, lget_eq]
  cases o[off]? <;> rfl

/-- An object's cells are said anew: aliases live on where the slices are the same. Memory may have turned at that object. -/
theorem turn_obj {c : Cx} {γ γ' : Gh} {st : St} {a : Act} {w w' : World} {i : Nat} {o p : Obj} (hi : Inv c γ st a w) (ho : objAt st i = some p)
    (wd : Wd c γ' w') (hob : γ'.ob = γ.ob) (hback : ∀ i b, γ.ob i = some b → γ'.cls b = .obj i)
    (hobj : ∃ b cs e, γ.ob i = some b ∧ w'.heap[b]? = some (.cells cs e (0, 0)) ∧ cs.size = o.length ∧ bldOk e o.length = true ∧
      ∀ j x, o[j]? = some x → ∃ v, cs[j]? = some v ∧ one v ∧ R γ' w' ⟨.cell i j, []⟩ x v)
    (hrest : ∀ i' b, γ.ob i' = some b → ¬ i' = i → w'.heap[b]? = w.heap[b]?)
    (kcell : ∀ i' j x v, ¬ i' = i → R γ w ⟨.cell i' j, []⟩ x v → R γ' w' ⟨.cell i' j, []⟩ x v)
    (kslot : ∀ t x v, R γ w ⟨.slot t, []⟩ x v → R γ' w' ⟨.slot t, []⟩ x v)
    (hal : ∀ t z off lo len, fget st.fr t = .al z (.cell i off) lo len → ((o[off]?).getD .unk).owner = true ∧ AlOk ((o[off]?).getD .unk) (homeVal γ' a w' (.cell i off)) z lo len (a.tmps.getD t undef))
    (hep : ∀ t off j k, fget st.fr t = .ep (.cell i off) j k → ((o[off]?).getD .unk).owner = true ∧ EpOk ((o[off]?).getD .unk) (homeVal γ' a w' (.cell i off)) j k (a.tmps.getD t undef)) :
    Inv c γ' (setObj st i o) a w' := by
  have hget : ∀ i' off, homeGet (setObj st i o) (.cell i' off) = if i' = i then (o[off]?).getD .unk else homeGet st (.cell i' off) := by
    intro i' off
    by_cases e : i' = i
    · rw [if_pos e]
      exact homeGet_cell (by rw [objAt_setObj ho, if_pos e])
    · rw [if_neg e]
      simp only [homeGet]
      rw [objAt_setObj ho, if_neg e]
  have hslot : ∀ t, homeGet (setObj st i o) (.slot t) = homeGet st (.slot t) := fun t => rfl
  have hvals : ∀ i' off, ¬ i' = i → homeVal γ' a w' (.cell i' off) = homeVal γ a w (.cell i' off) := by
    intro i' off e
    simp only [homeVal, hob]
    cases hb : γ.ob i' with
    | none => rfl
    | some b => simp only [Option.bind_some, World.cell?]; rw [hrest i' b hb e]
  refine ⟨wd, ⟨?_, ?_, ?_, ?_⟩, ⟨?_, ?_, ?_, hi.fm.n, hi.fm.defers⟩⟩
  · intro i' o' e
    rw [objAt_setObj ho] at e
    by_cases k : i' = i
    · rw [if_pos k] at e
      injection e with e
      subst e
      subst k
      obtain ⟨b, cs, el, h1, h2, h3, h4⟩ := hobj
      exact ⟨b, cs, el, by rw [hob]; exact h1, hback _ _ h1, h2, h3, h4⟩
    · rw [if_neg k] at e
      obtain ⟨b, cs, el, h1, h2, h3, h4, hbe, h5⟩ := hi.hp.obj i' o' e
      refine ⟨b, cs, el, by rw [hob]; exact h1, hback _ _ h1, (hrest _ _ h1 k).trans h3, h4, hbe, fun j x hx => ?_⟩
      obtain ⟨v, k1, k2, k3⟩ := h5 j x hx
      exact ⟨v, k1, k2, kcell i' j x v k k3⟩
  · intro k hk
    rw [setObj_len] at hk
    rw [hob]
    exact hi.hp.fresh k hk
  · intro i' b e
    rw [hob] at e
    exact hback i' b e
  · rw [setObj_len]; exact hi.hp.k
  · intro t
    rw [setObj_fr]
    exact kslot t _ _ (hi.fm.val t)
  · intro t z h lo len e
    rw [setObj_fr] at e
    obtain ⟨k1, k2⟩ := hi.fm.al t z h lo len e
    cases h with
    | slot u => rw [hslot]; exact ⟨k1, k2⟩
    | cell i' off =>
      rw [hget]
      by_cases k : i' = i
      · subst k
        rw [if_pos rfl]
        exact hal t z off lo len e
      · rw [if_neg k, hvals _ _ k]; exact ⟨k1, k2⟩
  · intro t h j k e
    rw [setObj_fr] at e
    obtain ⟨k1, k2⟩ := hi.fm.ep t h j k e
    cases h with
    | slot u => rw [hslot]; exact ⟨k1, k2⟩
    | cell i' off =>
      rw [hget]
      by_cases k' : i' = i
      · subst k'
        rw [if_pos rfl]
        exact hep t off j k e
      · rw [if_neg k', hvals _ _ k']; exact ⟨k1, k2⟩
theorem cell_val {c : Cx} {γ : Gh} {st : St} {a : Act} {w : World} {i off : Nat} {o : Obj} {x : AV} (hi : Inv c γ st a w) (ho : objAt st i = some o) (hx : o[off]? = some x) :
    ∃ b cs e v, γ.ob i = some b ∧ γ.cls b = .obj i ∧ w.heap[b]? = some (.cells cs e (0, 0)) ∧ cs.size = o.length ∧ cs[off]? = some v ∧ one v ∧ R γ w ⟨.cell i off, []⟩ x v := by
  obtain ⟨b, cs, e, h1, h2, h3, h4, hbe, h5⟩ := hi.hp.obj i o ho
  obtain ⟨v, k1, k2, k3⟩ := h5 off x hx
  exact ⟨b, cs, e, v, h1, h2, h3, h4, k1, k2, k3⟩
/-- What is said of one cell is turned, memory being left alone. -/
theorem turn_cell {c : Cx} {γ γ' : Gh} {st : St} {a : Act} {w : World} {i off : Nat} {o : Obj} {x x0 : AV} (hi : Inv c γ st a w) (ho : objAt st i = some o) (hx : o[off]? = some x0)
    (f : Frz γ γ' w ⟨.cell i off, []⟩) (hv : ∀ v, homeVal γ a w (.cell i off) = some v → R γ' w ⟨.cell i off, []⟩ x v)
    (hs : ∀ z xs p, x = .sl z xs p → ∃ p', x0 = .sl z xs p') (how : x0.owner = true → x.owner = true) : Inv c γ' (setObj st i (lset o off x)) a w := by
  have hlen : off < o.length := by
    by_cases k : off < o.length
    · exact k
    · rw [List.getElem?_eq_none (by omega)] at hx; cases hx
  have hget : ((lset o off x)[off]?).getD .unk = x := by rw [lset_eq, List.getElem?_set]; simp [hlen]
  have hV : ∀ h, homeVal γ' a w h = homeVal γ a w h := by
    intro h
    cases h with
    | slot => rfl
    | cell => simp only [homeVal, f.ob]
  have hold : ∀ j, homeGet st (.cell i j) = (o[j]?).getD .unk := fun j => homeGet_cell ho
  refine turn_obj hi ho (f.wd hi.wd) f.ob (fun i b e => f.obj (hi.hp.back i b e)) ?_ (fun _ _ _ _ => rfl) (fun i' j x v h hr => R_keep _ (f.keeps (by intro q r k; injection k with k1 _; injection k1 with k1; exact h k1.symm)) _ hr)
    (fun t x v hr => R_keep _ (f.keeps (by simp)) _ hr) ?_ ?_
  · obtain ⟨b, cs, e, h1, h2, h3, h4, hbe, h5⟩ := hi.hp.obj i o ho
    refine ⟨b, cs, e, h1, h3, by rw [lset_eq]; simpa using h4, by rw [lset_eq, List.length_set]; exact hbe, fun j y hy => ?_⟩
    rw [lset_eq, List.getElem?_set] at hy
    by_cases k : off = j
    · subst k
      rw [if_pos rfl, if_pos hlen] at hy
      injection hy with hy
      subst hy
      obtain ⟨v, k1, k2, k3⟩ := h5 off x0 hx
      exact ⟨v, k1, k2, hv v (by simp only [homeVal, h1, Option.bind_some, World.cell?, h3]; simpa using k1)⟩
    · rw [if_neg k] at hy
      obtain ⟨v, k1, k2, k3⟩ := h5 j y hy
      exact ⟨v, k1, k2, R_keep _ (f.keeps (by intro q r k'; injection k' with k1 _; injection k1 with _ k1; exact k k1)) _ k3⟩
  · intro t z off' lo len e
    obtain ⟨k1, k2⟩ := hi.fm.al t z _ lo len e
    rw [hold] at k1 k2
    rw [hV]
    by_cases k : off = off'
    · subst k
      rw [hget]
      rw [hx] at k1 k2
      exact ⟨how k1, al_same k2 hs⟩
    · rw [lset_eq, List.getElem?_set, if_neg k]
      exact ⟨k1, k2⟩
  · intro t off' j kk e
    obtain ⟨k1, k2⟩ := hi.fm.ep t _ j kk e
    rw [hold] at k1 k2
    rw [hV]
    by_cases k : off = off'
    · subst k
      rw [hget]
      rw [hx] at k1 k2
      exact ⟨how k1, ep_same k2 hs⟩
    · rw [lset_eq, List.getElem?_set, if_neg k]
      exact ⟨k1, k2⟩

def homeLoc : Home → Loc
  | .slot t => ⟨.slot t, []⟩
  | .cell i off => ⟨.cell i off, []⟩
theorem home_rel {c : Cx} {γ : Gh} {st : St} {a : Act} {w : World} {h : Home} (hi : Inv c γ st a w) (hx : homeGet st h ≠ .unk) : ∃ u, homeVal γ a w h = some u ∧ R γ w (homeLoc h) (homeGet st h) u := by
  cases h with
  | slot t => exact ⟨_, rfl, hi.fm.val t⟩
  | cell i off =>
    simp only [homeGet] at hx ⊢
    cases ho : objAt st i with
    | none => rw [ho] at hx; exact (hx rfl).elim
    | some o =>
      rw [ho] at hx
      simp only [lget_eq] at hx ⊢
      cases hy : o[off]? with
      | none => rw [hy] at hx; exact (hx rfl).elim
      | some y =>
        simp only
        obtain ⟨b, cs, e, v, h1, h2, h3, h4, h5, h6, h7⟩ := cell_val hi ho hy
        exact ⟨v, by simp only [homeVal, h1, Option.bind_some, World.cell?, h3]; simpa using h5, h7⟩
/-- What lies at a home is said anew, memory being left alone. -/
theorem turn_home {c : Cx} {γ γ' : Gh} {st : St} {a : Act} {w : World} {h : Home} {x : AV} (hi : Inv c γ st a w) (h0 : homeGet st h ≠ .unk)
    (f : Frz γ γ' w (homeLoc h)) (hv : ∀ v, homeVal γ a w h = some v → R γ' w (homeLoc h) x v)
    (hs : ∀ z xs p, x = .sl z xs p → ∃ p', homeGet st h = .sl z xs p') (how : (homeGet st h).owner = true → x.owner = true) (h1 : ∀ z h lo len, x ≠ .al z h lo len) (h2 : ∀ h i off, x ≠ .ep h i off) :
    Inv c γ' (homePut st h x) a w ∧ homeGet (homePut st h x) h = x ∧ Ext γ st w γ' (homePut st h x) w := by
  cases h with
  | slot t =>
    exact ⟨turn_slot hi f (hv _ rfl) hs how h1 h2, by simp only [homeGet, homePut, fget_cons, if_true], f.ext rfl⟩
  | cell i off =>
    simp only [homeGet] at h0 hs how ⊢
    cases ho : objAt st i with
    | none => rw [ho] at h0; exact (h0 rfl).elim
    | some o =>
      rw [ho] at h0 hs how
      simp only [lget_eq] at h0 hs how
      cases hy : o[off]? with
      | none => rw [hy] at h0; exact (h0 rfl).elim
      | some y =>
        rw [hy] at hs how
        have hlen : off < o.length := by
          by_cases k : off < o.length
          · exact k
          · rw [List.getElem?_eq_none (by omega)] at hy; cases hy
        simp only [homePut, ho]
        refine ⟨turn_cell hi ho hy f hv hs how, ?_, f.ext rfl⟩
        rw [objAt_setObj ho, if_pos rfl]
        simp only [lget_eq, lset_eq, List.getElem?_set, hlen, if_true]
end Go.Va
set_option linter.unusedVariables false
namespace Go.Va

abbrev lim (k : Nat) : Loc := ⟨.limbo k, []⟩

/-- A value v, said to be x, is on its way, under the number k. -/
structure Flow (γ : Gh) (st : St) (a : Act) (w : World) (k : Nat) (x : AV) (v : Value) : Prop where
  rel : R γ w (lim k) x v
  al : ∀ z h lo len, x = .al z h lo len → (homeGet st h).owner = true ∧ AlOk (homeGet st h) (homeVal γ a w h) z lo len v
  ep : ∀ h i off, x = .ep h i off → (homeGet st h).owner = true ∧ EpOk (homeGet st h) (homeVal γ a w h) i off v

/-- From one moment to a later one, memory being the same; what is on its way under a number for which p holds stays as it is. -/
structure Did (c : Cx) (γ : Gh) (st : St) (γ' : Gh) (st' : St) (a : Act) (w : World) (p : Nat → Prop) : Prop where
  inv : Inv c γ' st' a w
  ext : Ext γ st w γ' st' w
  lim : ∀ k, p k → ∀ q x v, R γ w ⟨.limbo k, q⟩ x v → R γ' w ⟨.limbo k, q⟩ x v
theorem Did.refl {c : Cx} {γ : Gh} {st : St} {a : Act} {w : World} {p : Nat → Prop} (h : Inv c γ st a w) : Did c γ st γ st a w p :=
  ⟨h, .refl .., fun _ _ _ _ _ h => h⟩
theorem Did.trans {c : Cx} {γ γ1 γ2 : Gh} {st st1 st2 : St} {a : Act} {w : World} {p : Nat → Prop} (h : Did c γ st γ1 st1 a w p) (k : Did c γ1 st1 γ2 st2 a w p) : Did c γ st γ2 st2 a w p :=
  ⟨k.inv, h.ext.trans k.ext, fun n hn q x v e => k.lim n hn q x v (h.lim n hn q x v e)⟩
theorem Did.weaken {c : Cx} {γ γ1 : Gh} {st st1 : St} {a : Act} {w : World} {p q : Nat → Prop} (h : Did c γ st γ1 st1 a w p) (hq : ∀ n, q n → p n) : Did c γ st γ1 st1 a w q :=
  ⟨h.inv, h.ext, fun n hn => h.lim n (hq n hn)⟩

theorem Dn_drop {cls : Nat → Cls} : ∀ (n : Nat) (xs : List AV) {z : Nat} {o : Go.Obj} {off : Nat}, Dn cls xs z o off → Dn cls (xs.drop n) z o (off + n * z)
  | 0, xs, z, o, off, h => by simpa using h
  | n + 1, [], z, o, off, h => by simp [Dn]
  | n + 1, x :: xs, z, o, off, h => by
    simp only [Dn] at h
    obtain ⟨vs, _, _, _, h4⟩ := h
    have := Dn_drop n xs h4
    rw [List.drop_succ_cons, show off + (n + 1) * z = off + z + n * z by rw [Nat.add_mul]; omega]
    exact this
theorem Dn_take {cls : Nat → Cls} : ∀ (n : Nat) (xs : List AV) {z : Nat} {o : Go.Obj} {off : Nat}, Dn cls xs z o off → Dn cls (xs.take n) z o off
  | 0, xs, z, o, off, h => by simp [Dn]
  | n + 1, [], z, o, off, h => by simp [Dn]
  | n + 1, x :: xs, z, o, off, h => by
    simp only [Dn] at h
    obtain ⟨vs, h1, h2, h3, h4⟩ := h
    simp only [List.take_succ_cons, Dn]
    exact ⟨vs, h1, h2, h3, Dn_take n xs h4⟩
theorem Dn_cut {cls : Nat → Cls} {xs : List AV} {z : Nat} {o : Go.Obj} {off lo len : Nat} (h : Dn cls xs z o off) : Dn cls (lcut xs lo len) z o (off + lo * z) :=
  Dn_take _ _ (Dn_drop _ _ h)
theorem lcut_len {α : Type} {xs : List α} {lo len : Nat} (h : lo + len ≤ xs.length) : (lcut xs lo len).length = len := by
  simp [lcut]; omega
/-- what an alias of a slice that doesn't change stands for -/
theorem imm_cut {cls : Nat → Cls} {z : Nat} {xs : List AV} {u v : Value} {lo len : Nat} {ha a' : Option Addr} {cap : Nat} (h : V cls (.sl z xs .imm) u) (hl : lo + len ≤ xs.length)
    (hu : u = .slice ha xs.length cap) (hv : v = .slice a' len (cap - lo)) (h1 : 0 < len → ∃ b off, ha = some ⟨b, off, none⟩ ∧ a' = some ⟨b, off + lo * z, none⟩) :
    V cls (.sl z (lcut xs lo len) .imm) v := by
  simp only [V, D] at h ⊢
  obtain ⟨a, cap', e, hc, hx⟩ := h
  subst hu
  injection e with e1 _
  injection e1 with e1 e2 e3
  subst e1 e3
  refine ⟨a', cap - lo, ?_, ?_, ?_⟩
  · rw [hv, lcut_len hl]
  · rw [lcut_len hl]; omega
  · by_cases h0 : 0 < len
    · obtain ⟨b, off, k1, k2⟩ := h1 h0
      rcases hx with rfl | ⟨b', off', o, e4, hb, hn⟩
      · simp at hl; omega
      · rw [k1] at e4
        injection e4 with e4
        injection e4 with e5 e6
        subst e5 e6
        exact .inr ⟨b, off + lo * z, o, k2, hb, Dn_cut hn⟩
    · left
      have : len = 0 := by omega
      subst this
      simp [lcut]

theorem constV_ok (γ : Gh) (w : World) (l : Loc) (v : Value) : R γ w l (constV v) v := by
  unfold constV
  split
  · simp only [R, V, D]
    exact ⟨none, 0, rfl, Nat.le_refl _, .inl trivial⟩
  all_goals simp [R, one]
theorem opd_free (x : Operand) (h : ∀ t, x ≠ .tmp t) (st : St) : (opd st x).free = true ∧ (∀ z h lo len, opd st x ≠ .al z h lo len) ∧ (∀ h i off, opd st x ≠ .ep h i off) := by
  cases x with
  | tmp t => exact (h t rfl).elim
  | const v =>
    simp only [opd]
    unfold constV
    split <;> simp [AV.free]
  | func f => simp [opd, AV.free, freeL]
  | global g => simp [opd, AV.free]
theorem opd_ok {c : Cx} {γ : Gh} {st : St} {a : Act} {w : World} (hi : Inv c γ st a w) (x : Operand) {l : Loc} (hf : (opd st x).free = true) : R γ w l (opd st x) (a.eval x) := by
  cases x with
  | tmp t => exact R_free (KeepsF.refl γ) _ _ hf (hi.fm.val t)
  | const v => exact constV_ok γ w l v
  | func f => simp only [opd, R, Act.eval]; exact ⟨#[], #[], rfl, by simp [Rl], by simp [Rl]⟩
  | global g => simp only [opd, R]
/-- what owns nothing may be had anywhere -/
theorem flow_opd {c : Cx} {γ : Gh} {st : St} {a : Act} {w : World} (hi : Inv c γ st a w) (x : Operand) (k : Nat) (hf : (opd st x).free = true) : Flow γ st a w k (opd st x) (a.eval x) where
  rel := opd_ok hi x hf
  al z h lo len e := by
    cases x with
    | tmp t => exact hi.fm.al t z h lo len e
    | const v => exact ((opd_free (.const v) (by simp) st).2.1 _ _ _ _ e).elim
    | func f => cases e
    | global g => cases e
  ep h i off e := by
    cases x with
    | tmp t => exact hi.fm.ep t h i off e
    | const v => exact ((opd_free (.const v) (by simp) st).2.2 _ _ _ e).elim
    | func f => cases e
    | global g => cases e

/-- A value on its way comes into a slot. -/
theorem put_flow {c : Cx} {γ : Gh} {st : St} {a : Act} {w : World} {k : Nat} {x : AV} {v : Value} (dst : Option Nat) (hi : Inv c γ st a w) (hf : Flow γ st a w k x v) :
    ∃ γ', Inv c γ' (dput st dst x) (a.put dst v) w ∧ Ext γ st w γ' (dput st dst x) w := by
  cases dst with
  | none => exact ⟨γ, hi, .refl ..⟩
  | some d =>
    simp only [dput]
    cases hd : Nat.blt d st.n with
    | false =>
      have hd' := blt_f hd
      rw [put_over a d v (by rw [hi.fm.n]; omega)]
      exact ⟨γ, hi, .refl ..⟩
    | true =>
      have hd' : d < st.n := blt_t hd
      simp only [cond_true]
      cases hat : x.atSlot d with
      | false =>
        simp only [cond_false]
        refine ⟨γ.mv (lim k) ⟨.slot d, []⟩, put_any hi hd' (mv_wd _ _ hi.wd) (mv_hp _ (by simp) hi.hp) hat (fun t ht h => R_keep _ (mv_keeps_off γ w _ _ (by simp)) _ h)
          (R_keep _ (mv_keeps_to γ w _ _) _ hf.rel) (fun _ _ _ => rfl) hf.al hf.ep, mv_ext _ _ rfl⟩
      | true =>
        simp only [cond_true]
        exact ⟨γ, put_any hi hd' hi.wd hi.hp rfl (fun _ _ h => h) (by simp only [R]) (fun _ _ _ => rfl) (fun _ _ _ _ h => by cases h) (fun _ _ _ h => by cases h), .fr γ st w rfl⟩

theorem homeVal_mv (γ : Gh) (l l' : Loc) (a : Act) (w : World) (h : Home) : homeVal (γ.mv l l') a w h = homeVal γ a w h := by
  cases h <;> rfl
/-- What lies in a slot goes on its way. -/
theorem go_slot {c : Cx} {γ : Gh} {st : St} {a : Act} {w : World} (t k : Nat) (hi : Inv c γ st a w) (hn : (∀ z h lo len, fget st.fr t ≠ .al z h lo len) ∧ (∀ h i off, fget st.fr t ≠ .ep h i off)) :
    ∃ γ', Did c γ st γ' { st with fr := (t, .gone) :: st.fr } a w (· ≠ k) ∧ Flow γ' { st with fr := (t, .gone) :: st.fr } a w k (fget st.fr t) (a.tmps.getD t undef) := by
  have h1 := gone_slot t hi
  have keep : ∀ u x v, u ≠ t → R γ w ⟨.slot u, []⟩ x v → R (γ.mv ⟨.slot t, []⟩ (lim k)) w ⟨.slot u, []⟩ x v := fun u x v hu h =>
    R_keep _ (mv_keeps_off γ w _ _ (by simp; exact hu)) _ h
  refine ⟨γ.mv ⟨.slot t, []⟩ (lim k), ⟨⟨mv_wd _ _ hi.wd, ⟨(mv_hp _ (by simp) h1.hp).obj, h1.hp.fresh, (mv_hp _ (by simp) h1.hp).back, h1.hp.k⟩, ⟨?_, ?_, ?_, hi.fm.n, hi.fm.defers⟩⟩, mv_ext _ _ rfl, ?_⟩, ⟨?_, fun z h lo len e => (hn.1 _ _ _ _ e).elim, fun h i off e => (hn.2 _ _ _ e).elim⟩⟩
  · intro u
    by_cases e : u = t
    · subst e
      show R _ w _ (fget ((u, AV.gone) :: st.fr) u) _
      rw [fget_cons, if_pos rfl]; simp only [R]
    · exact keep u _ _ e (h1.fm.val u)
  · intro u z h lo len e
    rw [homeVal_mv]; exact h1.fm.al u z h lo len e
  · intro u h i off e
    rw [homeVal_mv]; exact h1.fm.ep u h i off e
  · intro k' hk q x v h
    exact R_keep _ (mv_keeps_off γ w _ _ (by simp)) _ h
  · exact R_keep _ (mv_keeps_to γ w _ _) _ (hi.fm.val t)
/-- In a slot lies what has been frozen there. -/
theorem frz_did {c : Cx} {γ γ' : Gh} {st : St} {a : Act} {w : World} {t : Nat} {x : AV} {p : Nat → Prop} (hi : Inv c γ st a w) (f : Frz γ γ' w ⟨.slot t, []⟩)
    (h : Inv c γ' { st with fr := (t, x) :: st.fr } a w) : Did c γ st γ' { st with fr := (t, x) :: st.fr } a w p :=
  ⟨h, f.ext rfl, fun k _ q x v e => R_keep _ (f.keeps (by simp)) _ e⟩

theorem okCaps_free : ∀ xs : List AV, okCaps xs = true → freeL xs = true
  | [], _ => by simp [freeL]
  | .s _ :: l, h => by simp only [okCaps] at h; simp [freeL, AV.free, okCaps_free l h]
  | .ptr _ _ :: l, h => by simp only [okCaps] at h; simp [freeL, AV.free, okCaps_free l h]
  | .sl _ _ .imm :: l, h => by simp only [okCaps] at h; simp [freeL, AV.free, okCaps_free l h]
  | .rp _ _ :: l, h => by simp only [okCaps] at h; simp [freeL, AV.free, okCaps_free l h]
  | .unk :: l, h => by simp [okCaps] at h
  | .sl _ _ .full :: l, h => by simp [okCaps] at h
  | .sl _ _ .ro :: l, h => by simp [okCaps] at h
  | .agg _ :: l, h => by simp [okCaps] at h
  | .tup _ :: l, h => by simp [okCaps] at h
  | .al .. :: l, h => by simp [okCaps] at h
  | .ep .. :: l, h => by simp [okCaps] at h
  | .nb _ :: l, h => by simp [okCaps] at h
  | .fn .. :: l, h => by simp [okCaps] at h
  | .gone :: l, h => by simp [okCaps] at h
theorem plain_same : ∀ (xs ys : List AV), plainL xs = some ys → anyFull xs = false → ys = xs
  | [], ys, h, _ => by simp only [plainL] at h; cases h; rfl
  | x :: xs, ys, h, hf => by
    simp only [plainL] at h
    cases hx : x.plain1 with
    | none => rw [hx] at h; cases h
    | some y =>
      cases hu : plainL xs with
      | none => rw [hx, hu] at h; cases h
      | some zs =>
        rw [hx, hu] at h
        cases h
        have hxs : anyFull xs = false ∧ y = x := by
          unfold AV.plain1 at hx
          split at hx <;> cases hx <;> simp_all [anyFull]
        rw [hxs.2, plain_same xs zs hu hxs.1]
theorem keepCells_free : ∀ xs : List AV, keepCells xs = true → freeL xs = true
  | [], _ => by simp [freeL]
  | .s _ :: l, h => by simp only [keepCells] at h; simp [freeL, AV.free, keepCells_free l h]
  | .ptr _ _ :: l, h => by simp only [keepCells] at h; simp [freeL, AV.free, keepCells_free l h]
  | .sl _ _ .imm :: l, h => by simp only [keepCells] at h; simp [freeL, AV.free, keepCells_free l h]
  | .rp _ _ :: l, h => by simp only [keepCells] at h; simp [freeL, AV.free, keepCells_free l h]
  | .unk :: l, h => by simp [keepCells] at h
  | .sl _ _ .full :: l, h => by simp [keepCells] at h
  | .sl _ _ .ro :: l, h => by simp [keepCells] at h
  | .agg _ :: l, h => by simp [keepCells] at h
  | .tup _ :: l, h => by simp [keepCells] at h
  | .al .. :: l, h => by simp [keepCells] at h
  | .ep .. :: l, h => by simp [keepCells] at h
  | .nb _ :: l, h => by simp [keepCells] at h
  | .fn .. :: l, h => by simp [keepCells] at h
  | .gone :: l, h => by simp [keepCells] at h
theorem keep_free {v : AV} (h : v.keepable = true) : v.free = true ∧ v.isAl = false := by
  cases v with
  | sl z xs p => cases p <;> first | exact ⟨rfl, rfl⟩ | cases h
  | agg xs => exact ⟨by simp only [AV.free]; exact keepCells_free xs h, rfl⟩
  | _ => first | exact ⟨rfl, rfl⟩ | cases h
theorem copyV_ok {c : Cx} {γ : Gh} {st st1 : St} {a : Act} {w : World} {x : Operand} {y : AV} (k : Nat) (hi : Inv c γ st a w) (h : copyV st x = some (y, st1)) :
    ∃ γ1, Did c γ st γ1 st1 a w (· ≠ k) ∧ Flow γ1 st1 a w k y (a.eval x) := by
  have plain : (opd st x).free = true → y = opd st x → st1 = st → ∃ γ1, Did c γ st γ1 st1 a w (· ≠ k) ∧ Flow γ1 st1 a w k y (a.eval x) := fun hf hy hs => by
    subst hy hs; exact ⟨γ, .refl hi, flow_opd hi x k hf⟩
  unfold copyV at h
  cases x with
  | tmp t =>
    simp only at h
    simp only [opd] at plain
    cases hx : fget st.fr t with
    | sl z xs p =>
      rw [hx] at h plain
      cases p with
      | full =>
        simp only at h
        cases h
        refine ⟨γ, .refl hi, ⟨by simp only [R], fun z' h' lo' len' e => ?_, fun _ _ _ e => by cases e⟩⟩
        cases e
        simp only [homeGet, homeVal, hx]
        refine ⟨rfl, ?_⟩
        have hv := hi.fm.val t
        rw [hx] at hv
        simp only [R] at hv
        refine ⟨?_, ?_⟩
        · rcases hv with ⟨rfl, e⟩ | ⟨b, cap, cs, el, e, _, _, _, hl, _⟩
          · exact ⟨none, 0, e, by simp, fun h => by simp at h⟩
          · exact ⟨_, cap, e, hl, fun _ => ⟨b, 0, rfl⟩⟩
        intro z1 xs1 p1 e u hu
        cases e
        cases hu
        refine ⟨rfl, by omega, ?_⟩
        rcases hv with ⟨rfl, e⟩ | ⟨b, cap, cs, el, e, _⟩
        · rw [show a.eval (.tmp t) = _ from e]
          exact ⟨none, 0, none, e, by simp, fun _ => rfl, fun h => by simp at h⟩
        · exact ⟨some ⟨b, 0, none⟩, cap, some ⟨b, 0, none⟩, e, by rw [show a.eval (.tmp t) = _ from e]; simp, fun _ => rfl, fun _ => ⟨b, 0, rfl, by simp⟩⟩
      | imm => simp only at h; cases h; exact plain rfl rfl rfl
      | ro => simp only at h; cases h; exact plain rfl rfl rfl
    | tup xs =>
      rw [hx] at h
      simp only at h
      cases h
      have := go_slot t k hi ⟨by simp [hx], by simp [hx]⟩
      rw [hx] at this
      exact this
    | agg xs =>
      rw [hx] at h
      simp only at h
      cases hp : plainL xs with
      | none => rw [hp] at h; cases h
      | some ys =>
        rw [hp] at h
        simp only at h
        cases hf : anyFull xs with
        | false =>
          have hs := plain_same _ _ hp hf
          rw [hf] at h
          cases h
          rw [hx] at plain
          exact plain (by simp only [AV.free]; rw [← hs]; exact plain_free xs ys hp) (by rw [hs]) rfl
        | true =>
        rw [hf] at h
        cases h
        have hv := hi.fm.val t
        rw [hx] at hv
        simp only [R] at hv
        obtain ⟨cs, e, hones, hl⟩ := hv
        obtain ⟨γ', f, hl'⟩ := frz_plainL xs ys 0 cs.toList hp hl
        have hfree := plain_free xs ys hp
        have hI : Inv c γ' { st with fr := (t, .agg ys) :: st.fr } a w := by
          refine turn_slot hi f ?_ (fun z xs p e => by cases e) (fun h => by rw [hx] at h; cases h) (fun _ _ _ _ h => by cases h) (fun _ _ _ h => by cases h)
          simp only [R]; exact ⟨cs, e, hones, hl'⟩
        refine ⟨γ', frz_did hi f hI, ⟨?_, (fun _ _ _ _ e => by cases e), (fun _ _ _ e => by cases e)⟩⟩
        simp only [R]
        exact ⟨cs, e, hones, Rl_free (KeepsF.refl γ') ys 0 _ hfree hl'⟩
    | nb xs => rw [hx] at h; cases h
    | gone => rw [hx] at h; cases h
    | s v => rw [hx] at h plain; cases h; exact plain rfl rfl rfl
    | al z h' lo len => rw [hx] at h plain; cases h; exact plain rfl rfl rfl
    | rp r xs => rw [hx] at h plain; cases h; exact plain rfl rfl rfl
    | ep h' i off => rw [hx] at h plain; cases h; exact plain rfl rfl rfl
    | ptr i off => rw [hx] at h plain; cases h; exact plain rfl rfl rfl
    | fn f a b =>
      rw [hx] at h plain
      simp only at h
      cases hc : okCaps a && okCaps b with
      | false => rw [hc] at h; cases h
      | true =>
        rw [hc] at h
        cases h
        rw [Bool.and_eq_true] at hc
        exact plain (by simp only [AV.free, okCaps_free a hc.1, okCaps_free b hc.2, Bool.and_self]) rfl rfl
    | unk => rw [hx] at h plain; cases h; exact plain rfl rfl rfl
  | const v => cases h; exact plain (opd_free _ (by simp) st).1 rfl rfl
  | func f => cases h; exact plain (opd_free _ (by simp) st).1 rfl rfl
  | global g => cases h; exact plain (opd_free _ (by simp) st).1 rfl rfl
end Go.Va
set_option linter.unusedVariables false
namespace Go.Va

theorem takeV_ok {c : Cx} {γ : Gh} {st st1 : St} {a : Act} {w : World} {x : Operand} {y : AV} (k : Nat) (hi : Inv c γ st a w) (h : takeV st x = some (y, st1)) :
    ∃ γ1, Did c γ st γ1 st1 a w (· ≠ k) ∧ Flow γ1 st1 a w k y (a.eval x) := by
  have plain : (opd st x).free = true → y = opd st x → st1 = st → ∃ γ1, Did c γ st γ1 st1 a w (· ≠ k) ∧ Flow γ1 st1 a w k y (a.eval x) := fun hf hy hs => by
    subst hy hs; exact ⟨γ, .refl hi, flow_opd hi x k hf⟩
  unfold takeV at h
  cases x with
  | tmp t =>
    simp only at h
    simp only [opd] at plain
    have go := go_slot t k hi
    cases hx : fget st.fr t with
    | sl z xs p =>
      rw [hx] at h plain go
      cases p with
      | full => simp only at h; cases h; exact go ⟨by simp, by simp⟩
      | imm => simp only at h; cases h; exact plain rfl rfl rfl
      | ro => simp only at h; cases h; exact plain rfl rfl rfl
    | tup xs => rw [hx] at h go; simp only at h; cases h; exact go ⟨by simp, by simp⟩
    | agg xs => rw [hx] at h go; simp only at h; cases h; exact go ⟨by simp, by simp⟩
    | nb xs => rw [hx] at h go; simp only at h; cases h; exact go ⟨by simp, by simp⟩
    | gone => rw [hx] at h; cases h
    | s v => rw [hx] at h plain; cases h; exact plain rfl rfl rfl
    | al z h' lo len => rw [hx] at h plain; cases h; exact plain rfl rfl rfl
    | rp r xs => rw [hx] at h plain; cases h; exact plain rfl rfl rfl
    | ep h' i off => rw [hx] at h plain; cases h; exact plain rfl rfl rfl
    | ptr i off => rw [hx] at h plain; cases h; exact plain rfl rfl rfl
    | fn f a b =>
      rw [hx] at h plain
      simp only at h
      cases hc : okCaps a && okCaps b with
      | false => rw [hc] at h; cases h
      | true =>
        rw [hc] at h
        cases h
        rw [Bool.and_eq_true] at hc
        exact plain (by simp only [AV.free, okCaps_free a hc.1, okCaps_free b hc.2, Bool.and_self]) rfl rfl
    | unk => rw [hx] at h plain; cases h; exact plain rfl rfl rfl
  | const v => cases h; exact plain (opd_free _ (by simp) st).1 rfl rfl
  | func f => cases h; exact plain (opd_free _ (by simp) st).1 rfl rfl
  | global g => cases h; exact plain (opd_free _ (by simp) st).1 rfl rfl

theorem homeLoc_lim (h : Home) (k : Nat) : ∀ q r k' p, (⟨(homeLoc h).base, (homeLoc h).path ++ q⟩ : Loc) ≠ ⟨(⟨.limbo k, p⟩ : Loc).base, (⟨.limbo k', p⟩ : Loc).path ++ r⟩ := by
  intro q r k' p e
  cases h <;> simp [homeLoc] at e
theorem freezeAt_ok {c : Cx} {γ : Gh} {st st1 : St} {a : Act} {w : World} {h : Home} {z : Nat} {xs : List AV} (hi : Inv c γ st a w) (e : freezeAt st h = some (z, xs, st1)) :
    ∃ γ1, Did c γ st γ1 st1 a w (fun _ => True) ∧ ∃ u p, homeGet st h = .sl z xs p ∧ homeVal γ a w h = some u ∧ V γ1.cls (.sl z xs .imm) u := by
  unfold freezeAt at e
  cases hx : homeGet st h with
  | sl z' xs' p =>
    rw [hx] at e
    obtain ⟨u, hu, hr⟩ := home_rel (h := h) hi (by rw [hx]; simp)
    rw [hx] at hr
    cases p with
    | full =>
      simp only at e
      cases e
      obtain ⟨γ', f, hv⟩ := frz_sl hr
      obtain ⟨k1, k2, k3⟩ := turn_home (h := h) (x := .sl z xs .imm) hi (by rw [hx]; simp) f (fun v e => by rw [hu] at e; cases e; exact hv _)
        (fun z1 xs1 p1 e => by cases e; exact ⟨_, hx⟩) (fun _ => rfl) (by simp) (by simp)
      refine ⟨γ', ⟨k1, k3, fun k _ q x v e => R_keep _ (f.keeps (fun q r => homeLoc_lim h k q r k _)) _ e⟩, u, .full, rfl, hu, ?_⟩
      have := hv (lim 0)
      simpa only [R] using this
    | imm =>
      simp only at e
      cases e
      simp only [R] at hr
      exact ⟨γ, .refl hi, u, .imm, rfl, hu, hr⟩
    | ro => cases e
  | _ => rw [hx] at e; cases e

theorem valueV_ok {c : Cx} {γ : Gh} {st st1 : St} {a : Act} {w : World} {A : Ar} (hA : A = realAr) {x : Operand} {y : AV} (k : Nat) (hi : Inv c γ st a w) (h : valueV A st x = some (y, st1)) :
    ∃ γ1, Did c γ st γ1 st1 a w (· ≠ k) ∧ R γ1 w (lim k) y (a.eval x) ∧ (∀ z h lo len, y ≠ .al z h lo len) ∧ (∀ h i off, y ≠ .ep h i off) ∧ (∀ z xs, y ≠ .sl z xs .ro) := by
  unfold valueV at h
  cases ht : takeV st x with
  | none => rw [ht] at h; cases h
  | some r =>
    obtain ⟨y0, st0⟩ := r
    rw [ht] at h
    obtain ⟨γ0, d0, f0⟩ := takeV_ok k hi ht
    cases y0 with
    | al z hm lo len =>
      simp only at h
      cases hf : freezeAt st0 hm with
      | none => rw [hf] at h; cases h
      | some r =>
        obtain ⟨z', xs, st2⟩ := r
        rw [hf] at h
        simp only at h
        cases hb : A.nle (lo + len) xs.length with
        | false => rw [hb] at h; cases h
        | true =>
          rw [hb] at h
          cases h
          obtain ⟨γ1, d1, u, p, g1, g2, g3⟩ := freezeAt_ok d0.inv hf
          obtain ⟨_, hal⟩ := f0.al z hm lo len rfl
          obtain ⟨e1, e2, ha, cap, a', e3, e4, e5, e6⟩ := hal.2 _ _ _ g1 u g2
          subst e1
          refine ⟨γ1, d0.trans (d1.weaken fun _ _ => trivial), ?_, by simp, by simp, by simp⟩
          simp only [R]
          exact imm_cut g3 e2 e3 e4 e6
    | sl z xs p =>
      cases p with
      | ro => cases h
      | imm => cases h; exact ⟨γ0, d0, f0.rel, by simp, by simp, by simp⟩
      | full => cases h; exact ⟨γ0, d0, f0.rel, by simp, by simp, by simp⟩
    | ep => cases h
    | _ => cases h; exact ⟨γ0, d0, f0.rel, by simp, by simp, by simp⟩

/-- operands' values, in their order, on their way under k, k + 1, .. -/
theorem valuesV_ok {c : Cx} {a : Act} {w : World} {A : Ar} (hA : A = realAr) : ∀ (l : List (Nat × Operand)) {γ : Gh} {st st1 : St} {ys : List (Nat × AV)} (k : Nat), Inv c γ st a w → valuesV A st l = some (ys, st1) →
    ∃ γ1, Did c γ st γ1 st1 a w (· < k) ∧ ys.length = l.length ∧ ∀ j n x, l[j]? = some (n, x) → ∃ y, ys[j]? = some (n, y) ∧ R γ1 w (lim (k + j)) y (a.eval x) ∧ (∀ z h lo len, y ≠ .al z h lo len) ∧ (∀ h i off, y ≠ .ep h i off) ∧ (∀ z xs, y ≠ .sl z xs .ro)
  | [], γ, st, st1, ys, k, hi, h => by
    simp only [valuesV] at h
    cases h
    exact ⟨γ, .refl hi, rfl, fun j n x e => by simp at e⟩
  | (n, x) :: l, γ, st, st1, ys, k, hi, h => by
    simp only [valuesV] at h
    cases hv : valueV A st x with
    | none => rw [hv] at h; cases h
    | some r =>
      obtain ⟨y, st0⟩ := r
      rw [hv] at h
      simp only at h
      cases hs : valuesV A st0 l with
      | none => rw [hs] at h; cases h
      | some r =>
        obtain ⟨zs, st2⟩ := r
        rw [hs] at h
        cases h
        obtain ⟨γ0, d0, r0, n1, n2, n3⟩ := valueV_ok hA k hi hv
        obtain ⟨γ1, d1, hl, h1⟩ := valuesV_ok hA l (k + 1) d0.inv hs
        refine ⟨γ1, (d0.weaken (fun m hm => by omega)).trans (d1.weaken (fun m hm => by omega)), by simp [hl], ?_⟩
        intro j m x' e
        cases j with
        | zero =>
          simp at e
          obtain ⟨rfl, rfl⟩ := e
          exact ⟨y, by simp, d1.lim k (by omega) [] _ _ r0, n1, n2, n3⟩
        | succ j =>
          simp at e
          obtain ⟨y', e1, e2, e3⟩ := h1 j m x' e
          exact ⟨y', by simpa using e1, by rwa [show k + (j + 1) = k + 1 + j by omega], e3⟩
end Go.Va
