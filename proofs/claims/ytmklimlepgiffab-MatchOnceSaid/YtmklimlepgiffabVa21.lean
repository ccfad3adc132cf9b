/- The verified abstract interpreter, a part of it: no statement of its own. -/
import Derived.Test.YtmklimlepgiffabVa20
import Derived.Laws.CopyRow
set_option linter.unusedVariables false
set_option linter.unusedSimpArgs false
set_option linter.unusedVariables false
namespace Go.Va
section
variable {c : Cx} {γ : Gh} {st : St} {a : Act} {w : World} {o : Oper} {env : Env} {i : Nat}

/-- Slots that own nothing may be forgotten. -/
theorem kill_inv {fr : Fr} (hi : Inv c γ st a w) (h : ∀ t, fget fr t = fget st.fr t ∨ fget fr t = .unk ∧ (fget st.fr t).owner = false) : Inv c γ { st with fr := fr } a w := by
  have hh : ∀ hm, (homeGet st hm).owner = true → homeGet { st with fr := fr } hm = homeGet st hm := by
    intro hm ho
    cases hm with
    | cell i off => rfl
    | slot t =>
      rcases h t with e | ⟨_, e⟩
      · exact e
      · rw [show homeGet st (.slot t) = fget st.fr t from rfl, e] at ho; cases ho
  refine ⟨hi.wd, ⟨hi.hp.obj, hi.hp.fresh, hi.hp.back, hi.hp.k⟩, ⟨?_, ?_, ?_, hi.fm.n, hi.fm.defers⟩⟩
  · intro t
    show R γ w _ (fget fr t) _
    rcases h t with e | ⟨e, _⟩
    · rw [e]; exact hi.fm.val t
    · rw [e]; simp only [R]
  · intro t z hm lo len e
    replace e : fget fr t = .al z hm lo len := e
    rcases h t with q | ⟨q, _⟩
    · rw [q] at e
      obtain ⟨k1, k2⟩ := hi.fm.al t z hm lo len e
      rw [hh hm k1]
      exact ⟨k1, k2⟩
    · rw [q] at e; cases e
  · intro t hm j off e
    replace e : fget fr t = .ep hm j off := e
    rcases h t with q | ⟨q, _⟩
    · rw [q] at e
      obtain ⟨k1, k2⟩ := hi.fm.ep t hm j off e
      rw [hh hm k1]
      exact ⟨k1, k2⟩
    · rw [q] at e; cases e
theorem atCell_cases {v : AV} {i off : Nat} (h : v.atCell i off = true) : v.owner = false ∧ ((∃ z lo len, v = .al z (.cell i off) lo len) ∨ ∃ j k, v = .ep (.cell i off) j k) := by
  unfold AV.atCell at h
  split at h
  · simp only [Bool.and_eq_true] at h
    rw [beq_t h.1, beq_t h.2]
    exact ⟨rfl, .inl ⟨_, _, _, rfl⟩⟩
  · simp only [Bool.and_eq_true] at h
    rw [beq_t h.1, beq_t h.2]
    exact ⟨rfl, .inr ⟨_, _, rfl⟩⟩
  · cases h
theorem fget_killCell (i off u : Nat) : ∀ fr : Fr, fget (killCell i off fr) u = (bif (fget fr u).atCell i off then .unk else fget fr u)
  | [] => by simp [killCell, fget, AV.atCell]
  | (s, v) :: fr => by
    simp only [killCell, fget]
    cases Nat.beq s u with
    | true => rfl
    | false => exact fget_killCell i off u fr
/-- n cells from off on: no alias of them is left -/
theorem fget_killCells (i u : Nat) : ∀ (n off : Nat) (fr : Fr), (fget (killCells i off n fr) u = fget fr u ∧ ∀ j, j < n → (fget fr u).atCell i (off + j) = false) ∨ (fget (killCells i off n fr) u = .unk ∧ (fget fr u).owner = false)
  | 0, off, fr => .inl ⟨rfl, by omega⟩
  | n + 1, off, fr => by
    simp only [killCells]
    rcases fget_killCells i u n (off + 1) (killCell i off fr) with ⟨h1, h2⟩ | ⟨h1, h2⟩
    · rw [fget_killCell] at h1 h2
      cases hc : (fget fr u).atCell i off with
      | true =>
        rw [hc] at h1
        exact .inr ⟨h1, (atCell_cases hc).1⟩
      | false =>
        rw [hc] at h1 h2
        refine .inl ⟨h1, fun j hj => ?_⟩
        cases j with
        | zero => exact hc
        | succ j => have := h2 j (by omega); rwa [show off + (j + 1) = off + 1 + j by omega]
    · rw [fget_killCell] at h2
      refine .inr ⟨h1, ?_⟩
      cases hc : (fget fr u).atCell i off with
      | true => exact (atCell_cases hc).1
      | false => rw [hc] at h2; exact h2
end
end Go.Va
set_option linter.unusedVariables false
namespace Go.Va
section
variable {c : Cx} {γ : Gh} {st : St} {a : Act} {w : World} {o : Oper} {env : Env} {i : Nat}

theorem one_cell' {v : Value} (h : one v) : v.oneCell' = true := by cases v <;> first | rfl | cases h
theorem row_keeps {b : Nat} {cs : Array Value} {l : Loc} (hb : ∀ q, γ.cls b ≠ .own ⟨l.base, l.path ++ q⟩) : Keeps γ γ w (w.setRow b cs) l l where
  imm _ _ e := e
  ro _ _ e := e
  own x q e := ⟨e, setRow_other w b x cs (by rintro rfl; exact hb q e)⟩
  ob _ _ e := e
theorem row_wd {b : Nat} {cs : Array Value} (h : Wd c γ w) (hb : ∀ o, γ.cls b ≠ .imm o ∧ γ.cls b ≠ .ro o) : Wd c γ (w.setRow b cs) where
  still x o e := by
    rw [setRow_other w b x cs (by rintro rfl; rcases e with e | e; exact (hb o).1 e; exact (hb o).2 e)]
    exact h.still x o e
  low x hx := h.low x hx
  new x hx := h.new x (by rwa [setRow_size] at hx)
  size := by rw [setRow_size]; exact h.size
  os := h.os
  tape := h.tape
  out := h.out
theorem row_ext {b : Nat} {cs : Array Value} {st' : St} (hb : γ.cls b ≠ .other) (hk : st'.k = st.k) : Ext γ st w γ st' (w.setRow b cs) where
  imm _ _ e := e
  ro _ _ e := e
  ro' _ _ e := e
  other x _ e := ⟨e, setRow_other w b x cs (by rintro rfl; exact hb e)⟩
  size := by rw [setRow_size]; exact Nat.le_refl _
  k := hk
  ob _ _ := rfl
theorem run_store_row {P : Program} {t : TypeId} {ty : Ty} (T : TyOk P t ty) {b off : Nat} {v : Value} {cs : Array Value} {el : TypeId} (hh : w.heap[b]? = some (.cells cs el (0, 0))) (hs : v.cells.size = ty.size) (hl : off + ty.size ≤ cs.size) (h1 : ∀ u ∈ v.cells.toList, one u) :
    (Instr.storeAt t (.pointer (some ⟨b, off, none⟩)) v).run P w = .ok () (w.setRow b (cs.toList.take off ++ v.cells.toList ++ cs.toList.drop (off + ty.size)).toArray) := by
  have := run_storeCells_at P b off el v.cells.toList 0 cs w hh (by simp [hs]; omega) (fun u hu => one_cell' (h1 u hu))
  have hn : ¬ v.cells.size ≠ ty.size := by simp [hs]
  simp only [Instr.storeAt, Instr.sureAddr, storeVar, Sem.run_bind, Sem.run_pure, Result.andThen_ok, run_sizeOf' T, if_neg hn, this]
  simp [hs]
theorem ownerIn_get : ∀ (xs : List AV), ownerIn xs = false → ∀ (j : Nat) (x : AV), xs[j]? = some x → x.owner = false
  | [], _, j, x, e => by simp at e
  | y :: ys, h, 0, x, e => by
    simp only [ownerIn, Bool.or_eq_false_iff] at h
    simp at e; subst e; exact h.1
  | y :: ys, h, j + 1, x, e => by
    simp only [ownerIn, Bool.or_eq_false_iff] at h
    exact ownerIn_get ys h.2 j x (by simpa using e)
theorem row_get {cs us : List Value} {off : Nat} (h : off + us.length ≤ cs.length) (m : Nat) : (cs.take off ++ us ++ cs.drop (off + us.length))[m]? = if off ≤ m ∧ m < off + us.length then us[m - off]? else cs[m]? := by
  simp only [List.append_assoc]
  by_cases h1 : m < off
  · rw [List.getElem?_append_left (by simp; omega), List.getElem?_take, if_pos h1, if_neg (by omega)]
  · rw [List.getElem?_append_right (by simp; omega)]
    simp only [List.length_take]
    rw [show min off cs.length = off by omega]
    by_cases h2 : m < off + us.length
    · rw [List.getElem?_append_left (by omega), if_pos (by omega)]
    · rw [List.getElem?_append_right (by omega), if_neg (by omega), List.getElem?_drop]
      congr 1
      omega
theorem storeP_ok (hi : Inv c γ st a w) {t : TypeId} {ty : Ty} (T : TyOk c.P t ty) {off b : Nat} {y : AV} {u : Value} {st1 : St} (hr : R γ w (lim 0) y u) (hob : γ.ob i = some b) (h : storeP st ty i off y = some st1) :
    ∃ γ' w', (Instr.storeAt t (.pointer (some ⟨b, off, none⟩)) u).run c.P w = .ok () w' ∧ Inv c γ' st1 a w' ∧ Ext γ st w γ' st1 w' := by
  unfold storeP at h
  cases ho : objAt st i with
  | none => rw [ho] at h; cases h
  | some ob =>
    rw [ho] at h
    simp only at h
    cases hk : Nat.beq y.cells.length ty.size && Nat.ble (off + ty.size) ob.length && !y.isUnk && allCellOk y.cells with
    | false => rw [hk] at h; cases h
    | true =>
      rw [hk] at h
      simp only [cond_true, Option.some.injEq] at h
      simp only [Bool.and_eq_true, Bool.not_eq_true'] at hk
      obtain ⟨⟨⟨k1, k2⟩, k3⟩, k4⟩ := hk
      have k1 := beq_t k1
      have k2 := ble_t k2
      obtain ⟨s1, s2⟩ := spread_cells (fun j => (⟨.cell i (off + j), []⟩ : Loc)) hr k3 k4
      have f := Frz.spread γ w 0 (fun j => (⟨.cell i (off + j), []⟩ : Loc))
      have hI := lim_inv hi f
      obtain ⟨b', cs, el, h1, h2, h3, h4, hbe, h5⟩ := hi.hp.obj i ob ho
      rw [hob] at h1
      cases h1
      have hus : u.cells.toList.length = ty.size := by simp [s1, k1]
      have hones : ∀ v ∈ u.cells.toList, one v := by
        intro v hv
        obtain ⟨m, hm, e⟩ := List.getElem_of_mem hv
        obtain ⟨v', e1, e2, _⟩ := s2 m y.cells[m] (by simp [show m < y.cells.length by omega])
        have : u.cells[m]? = some v := by rw [← e]; simp at hm; simp [hm]
        rw [this] at e1
        cases e1
        exact e2
      refine ⟨γ.spread 0 (fun j => (⟨.cell i (off + j), []⟩ : Loc)), _, run_store_row T h3 (by simpa using hus) (by omega) hones, ?_⟩
      -- the frame, with aliases of what is overwritten forgotten
      have hkill : ∃ fr, (bif ownerIn (lcut ob off ty.size) then { st with fr := killCells i off ty.size st.fr } else st) = { st with fr := fr } ∧
          (∀ q, fget fr q = fget st.fr q ∨ fget fr q = .unk ∧ (fget st.fr q).owner = false) ∧
          ∀ q m, off ≤ m → m < off + ty.size → (∀ z lo len, fget fr q ≠ .al z (.cell i m) lo len) ∧ (∀ j k, fget fr q ≠ .ep (.cell i m) j k) := by
        cases hw : ownerIn (lcut ob off ty.size) with
        | true =>
          refine ⟨_, rfl, fun q => ?_, fun q m m1 m2 => ?_⟩
          · rcases fget_killCells i q ty.size off st.fr with ⟨e, _⟩ | e
            · exact .inl e
            · exact .inr e
          · rcases fget_killCells i q ty.size off st.fr with ⟨e, e2⟩ | ⟨e, _⟩
            · have := e2 (m - off) (by omega)
              rw [show off + (m - off) = m by omega] at this
              rw [e]
              constructor
              · intro z lo len e'; rw [e'] at this; simp [AV.atCell, Nat.beq_refl] at this
              · intro j k e'; rw [e'] at this; simp [AV.atCell, Nat.beq_refl] at this
            · rw [e]; exact ⟨by simp, by simp⟩
        | false =>
          refine ⟨st.fr, rfl, fun q => .inl rfl, fun q m m1 m2 => ?_⟩
          have hno : (homeGet st (.cell i m)).owner = false := by
            rw [homeGet_cell ho]
            have hm : m < ob.length := by omega
            have hx : (lcut ob off ty.size)[m - off]? = some ob[m] := by
              simp only [lcut]
              rw [List.getElem?_take, if_pos (by omega), List.getElem?_drop, show off + (m - off) = m by omega]
              simp [hm]
            have := ownerIn_get _ hw _ _ hx
            simpa [hm] using this
          constructor
          · intro z lo len e
            have := (hi.fm.al q z _ lo len e).1
            rw [hno] at this; cases this
          · intro j k e
            have := (hi.fm.ep q _ j k e).1
            rw [hno] at this; cases this
      obtain ⟨fr, e1, e2, e3⟩ := hkill
      rw [e1] at h
      have hK := kill_inv (fr := fr) hI e2
      have hcls : (γ.spread 0 (fun j => (⟨.cell i (off + j), []⟩ : Loc))).cls b = .obj i := f.obj h2
      have hrow : ∀ l, Keeps (γ.spread 0 (fun j => (⟨.cell i (off + j), []⟩ : Loc))) (γ.spread 0 (fun j => (⟨.cell i (off + j), []⟩ : Loc))) w (w.setRow b (cs.toList.take off ++ u.cells.toList ++ cs.toList.drop (off + ty.size)).toArray) l l :=
        fun l => row_keeps (by intro q; rw [hcls]; simp)
      have hlen : off + u.cells.toList.length ≤ cs.toList.length := by rw [hus]; simp; omega
      have hw' : ∀ m, m < off ∨ off + ty.size ≤ m → (cs.toList.take off ++ u.cells.toList ++ cs.toList.drop (off + ty.size))[m]? = cs[m]? := by
        intro m hm
        have := row_get hlen m
        rw [hus] at this
        rw [this, if_neg (by omega)]
        simp
      have hT := turn_obj (γ' := γ.spread 0 (fun j => (⟨.cell i (off + j), []⟩ : Loc))) (w' := w.setRow b (cs.toList.take off ++ u.cells.toList ++ cs.toList.drop (off + ty.size)).toArray) (o := splice ob off y.cells) (p := ob) (i := i) hK ho
        (row_wd hK.wd (by intro o; rw [hcls]; simp)) rfl (fun i b e => hK.hp.back i b e) ?_ ?_ (fun i' j x v _ h => R_keep x (hrow _) v h) (fun t x v h => R_keep x (hrow _) v h) ?_ ?_
      · subst h
        exact ⟨hT, Ext.trans (st1 := { st with fr := fr }) (f.ext rfl) (row_ext (by rw [hcls]; simp) rfl)⟩
      · refine ⟨b, _, el, hob, setRow_heap w b cs _ el (0, 0) h3, ?_, by rw [splice_len _ _ _ (by omega)]; exact hbe, fun j x hx => ?_⟩
        · rw [splice_len _ _ _ (by omega)]
          simp only [List.size_toArray, List.length_append, List.length_take, List.length_drop, hus]
          simp
          omega
        · rw [splice_get _ _ _ (by omega)] at hx
          have hg := row_get hlen j
          rw [hus] at hg
          simp only [List.getElem?_toArray, hg]
          rw [k1] at hx
          by_cases q : off ≤ j ∧ j < off + ty.size
          · rw [if_pos q] at hx ⊢
            obtain ⟨v, v1, v2, v3⟩ := s2 _ x hx
            refine ⟨v, by simpa using v1, v2, ?_⟩
            rw [show off + (j - off) = j by omega] at v3
            exact R_keep x (hrow _) v v3
          · rw [if_neg q] at hx ⊢
            obtain ⟨v, v1, v2, v3⟩ := h5 j x hx
            have v3 : R (γ.spread 0 (fun j => (⟨.cell i (off + j), []⟩ : Loc))) w ⟨.cell i j, []⟩ x v := R_keep x (f.keeps (by simp)) v v3
            exact ⟨v, by simpa using v1, v2, R_keep x (hrow _) v v3⟩
      · intro i' b2 q1 q2
        have q1 : γ.ob i' = some b2 := q1
        refine setRow_other w b b2 _ ?_
        rintro rfl
        have := hi.hp.back i' b2 q1
        rw [h2] at this
        cases this
        exact q2 rfl
      · intro q z m lo len e
        by_cases hm : off ≤ m ∧ m < off + ty.size
        · exact ((e3 q m hm.1 hm.2).1 _ _ _ e).elim
        · obtain ⟨g1, g2⟩ := hK.fm.al q z _ lo len e
          rw [homeGet_cell (show objAt { st with fr := fr } i = some ob from ho)] at g1 g2
          rw [splice_get _ _ _ (by omega), k1, if_neg hm]
          refine ⟨g1, ?_⟩
          have : homeVal (γ.spread 0 (fun j => (⟨.cell i (off + j), []⟩ : Loc))) a (w.setRow b (cs.toList.take off ++ u.cells.toList ++ cs.toList.drop (off + ty.size)).toArray) (.cell i m) = homeVal (γ.spread 0 (fun j => (⟨.cell i (off + j), []⟩ : Loc))) a w (.cell i m) := by
            have hob' : (γ.spread 0 (fun j => (⟨.cell i (off + j), []⟩ : Loc))).ob i = some b := hob
            simp only [homeVal, hob', Option.bind_some, cell_of h3, cell_of (setRow_heap w b cs _ el (0, 0) h3), List.getElem?_toArray]
            exact hw' m (by omega)
          rw [this]
          exact g2
      · intro q m j k e
        by_cases hm : off ≤ m ∧ m < off + ty.size
        · exact ((e3 q m hm.1 hm.2).2 _ _ e).elim
        · obtain ⟨g1, g2⟩ := hK.fm.ep q _ j k e
          rw [homeGet_cell (show objAt { st with fr := fr } i = some ob from ho)] at g1 g2
          rw [splice_get _ _ _ (by omega), k1, if_neg hm]
          refine ⟨g1, ?_⟩
          have : homeVal (γ.spread 0 (fun j => (⟨.cell i (off + j), []⟩ : Loc))) a (w.setRow b (cs.toList.take off ++ u.cells.toList ++ cs.toList.drop (off + ty.size)).toArray) (.cell i m) = homeVal (γ.spread 0 (fun j => (⟨.cell i (off + j), []⟩ : Loc))) a w (.cell i m) := by
            have hob' : (γ.spread 0 (fun j => (⟨.cell i (off + j), []⟩ : Loc))).ob i = some b := hob
            simp only [homeVal, hob', Option.bind_some, cell_of h3, cell_of (setRow_heap w b cs _ el (0, 0) h3), List.getElem?_toArray]
            exact hw' m (by omega)
          rw [this]
          exact g2
end
end Go.Va
set_option linter.unusedVariables false
namespace Go.Va
section
variable {c : Cx} {γ : Gh} {st : St} {a : Act} {w : World} {o : Oper} {env : Env} {i : Nat}

/-- What lies in a slot is said anew, and the block that belongs to it is written. -/
theorem write_slot {t b : Nat} {cs : Array Value} {x : AV} (hi : Inv c γ st a w) (hb : γ.cls b = .own ⟨.slot t, []⟩) (hv : R γ (w.setRow b cs) ⟨.slot t, []⟩ x (a.tmps.getD t undef))
    (hs : ∀ z xs p, x = .sl z xs p → ∃ xs' p', fget st.fr t = .sl z xs' p' ∧ xs'.length = xs.length) (ho : (fget st.fr t).owner = true → x.owner = true) (h1 : x.isAl = false) :
    Inv c γ { st with fr := (t, x) :: st.fr } a (w.setRow b cs) ∧ Ext γ st w γ { st with fr := (t, x) :: st.fr } (w.setRow b cs) := by
  have hg : ∀ u, fget ((t, x) :: st.fr) u = if t = u then x else fget st.fr u := fun u => fget_cons t u _ _
  have hh : ∀ h, homeGet { st with fr := (t, x) :: st.fr } h = if h = .slot t then x else homeGet st h := by
    intro h
    cases h with
    | slot u =>
      simp only [homeGet, hg, Home.slot.injEq]
      by_cases e : t = u
      · subst e; simp
      · rw [if_neg e, if_neg (fun k => e k.symm)]
    | cell => simp only [homeGet]; rfl
  have hne : ∀ {i b'}, γ.ob i = some b' → b' ≠ b := by
    rintro i b' e rfl
    have := hi.hp.back i b' e
    rw [hb] at this; cases this
  have hV : ∀ h, homeVal γ a (w.setRow b cs) h = homeVal γ a w h := by
    intro h
    cases h with
    | slot => rfl
    | cell i off =>
      simp only [homeVal]
      cases hob : γ.ob i with
      | none => rfl
      | some b' => simp only [Option.bind_some, World.cell?]; rw [setRow_other w b b' cs (hne hob)]
  have al : ∀ {hv : Option Value} {z lo len : Nat} {v : Value}, AlOk (fget st.fr t) hv z lo len v → AlOk x hv z lo len v := by
    intro hv z lo len v h
    refine ⟨h.1, ?_⟩
    intro z' xs p e u hu
    obtain ⟨xs', p', e', el⟩ := hs z' xs p e
    have := h.2 z' xs' p' e' u hu
    rw [el] at this
    exact this
  have ep : ∀ {hv : Option Value} {i off : Nat} {v : Value}, EpOk (fget st.fr t) hv i off v → EpOk x hv i off v := by
    intro hv i off v h
    refine ⟨h.1, ?_⟩
    intro z' xs p e u hu
    obtain ⟨xs', p', e', el⟩ := hs z' xs p e
    have := h.2 z' xs' p' e' u hu
    rw [el] at this
    exact this
  refine ⟨⟨row_wd hi.wd (by intro o; rw [hb]; simp), ⟨?_, hi.hp.fresh, hi.hp.back, hi.hp.k⟩, ⟨?_, ?_, ?_, hi.fm.n, hi.fm.defers⟩⟩, row_ext (by rw [hb]; simp) rfl⟩
  · intro i o' e
    obtain ⟨b', cs', el, k1, k2, k3, k4, hbe, k5⟩ := hi.hp.obj i o' e
    refine ⟨b', cs', el, k1, k2, by rw [setRow_other w b b' cs (hne k1)]; exact k3, k4, hbe, fun j y hy => ?_⟩
    obtain ⟨v, v1, v2, v3⟩ := k5 j y hy
    exact ⟨v, v1, v2, R_keep y (row_keeps (by intro q; rw [hb]; simp)) v v3⟩
  · intro u
    show R γ _ _ (fget ((t, x) :: st.fr) u) _
    rw [hg]
    by_cases e : t = u
    · subst e; rw [if_pos rfl]; exact hv
    · rw [if_neg e]
      exact R_keep _ (row_keeps (by intro q; rw [hb]; simp; exact fun k => (e k).elim)) _ (hi.fm.val u)
  · intro u z h lo len e
    replace e : fget ((t, x) :: st.fr) u = .al z h lo len := e
    rw [hg] at e
    by_cases k : t = u
    · rw [if_pos k] at e; exact ((isAl_no h1).1 _ _ _ _ e).elim
    · rw [if_neg k] at e
      obtain ⟨k1, k2⟩ := hi.fm.al u z h lo len e
      rw [hh, hV]
      by_cases q : h = .slot t
      · subst q; rw [if_pos rfl]; exact ⟨ho k1, al k2⟩
      · rw [if_neg q]; exact ⟨k1, k2⟩
  · intro u h j off e
    replace e : fget ((t, x) :: st.fr) u = .ep h j off := e
    rw [hg] at e
    by_cases k : t = u
    · rw [if_pos k] at e; exact ((isAl_no h1).2 _ _ _ e).elim
    · rw [if_neg k] at e
      obtain ⟨k1, k2⟩ := hi.fm.ep u h j off e
      rw [hh, hV]
      by_cases q : h = .slot t
      · subst q; rw [if_pos rfl]; exact ⟨ho k1, ep k2⟩
      · rw [if_neg q]; exact ⟨k1, k2⟩
theorem storeN_ok (hi : Inv c γ st a w) {t : TypeId} {ty : Ty} (T : TyOk c.P t ty) {x : Operand} {ob : List AV} {y : AV} {u : Value} {st1 : St} (hx : opd st x = .nb ob) (hr : R γ w (lim 0) y u) (h : storeN st ty x ob y = some st1) :
    ∃ γ' w', (Instr.storeAt t (a.eval x) u).run c.P w = .ok () w' ∧ Inv c γ' st1 a w' ∧ Ext γ st w γ' st1 w' := by
  unfold storeN at h
  cases x with
  | tmp s =>
    simp only at h
    cases hk : Nat.beq y.cells.length ty.size && Nat.beq ob.length ty.size && !y.isUnk && allCellOk y.cells with
    | false => rw [hk] at h; cases h
    | true =>
      rw [hk] at h
      cases h
      simp only [Bool.and_eq_true, Bool.not_eq_true'] at hk
      obtain ⟨⟨⟨k1, k2⟩, k3⟩, k4⟩ := hk
      have k1 := beq_t k1
      have k2 := beq_t k2
      obtain ⟨s1, s2⟩ := spread_cells (fun j => (⟨.slot s, [j]⟩ : Loc)) hr k3 k4
      have f := Frz.spread γ w 0 (fun j => (⟨.slot s, [j]⟩ : Loc))
      have hI := lim_inv hi f
      have hx : fget st.fr s = .nb ob := hx
      have hv := hI.fm.val s
      rw [hx] at hv
      simp only [R] at hv
      obtain ⟨b, cs, el, e, hb, hh, ho, hbe', hl⟩ := hv
      have hcs : cs.size = ty.size := by have := Rl_len _ hl; simpa [k2] using this
      have hus : u.cells.size = ty.size := by rw [s1, k1]
      have hones : ∀ v ∈ u.cells.toList, one v := by
        intro v hv
        obtain ⟨m, hm, e⟩ := List.getElem_of_mem hv
        simp at hm
        obtain ⟨v', e1, e2, _⟩ := s2 m y.cells[m] (by simp [show m < y.cells.length by omega])
        have : u.cells[m]? = some v := by rw [← e]; simp [hm]
        rw [this] at e1
        cases e1
        exact e2
      have hrun := run_store_row (off := 0) T hh hus (by omega) hones
      have hrow : (cs.toList.take 0 ++ u.cells.toList ++ cs.toList.drop (0 + ty.size)).toArray = u.cells := by
        rw [List.take_zero, List.nil_append, List.drop_eq_nil_of_le (by simp; omega), List.append_nil]
      rw [hrow] at hrun
      have key : R (γ.spread 0 (fun j => (⟨.slot s, [j]⟩ : Loc))) (w.setRow b u.cells) ⟨.slot s, []⟩ (.nb y.cells) (a.tmps.getD s undef) := by
        simp only [R]
        refine ⟨b, u.cells, el, e, hb, setRow_heap w b cs _ el (0, 0) hh, hones, by rw [k1, ← k2]; exact hbe', ?_⟩
        refine Laid.rl y.cells u.cells.toList 0 (by simpa using s1) (fun j x' hx' => ?_)
        obtain ⟨v, v1, v2, v3⟩ := s2 j x' hx'
        refine ⟨v, by simpa using v1, ?_⟩
        rw [Nat.zero_add]
        exact R_keep x' (row_keeps (by intro q; rw [hb]; simp [Loc.sub])) v v3
      obtain ⟨w1, w2⟩ := write_slot hI hb key (by simp) (fun _ => rfl) rfl
      exact ⟨_, _, by rw [show a.eval (.tmp s) = _ from e]; exact hrun, w1, (f.ext rfl).trans w2⟩
  | _ => cases h
end
end Go.Va
