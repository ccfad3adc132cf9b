/- The verified abstract interpreter, a part of it: no statement of its own. -/
import Derived.Test.YtmklimlepgiffabVa9
set_option linter.unusedVariables false
set_option linter.unusedSimpArgs false
set_option linter.unusedVariables false
namespace Go.Va

theorem put_tmps (a : Act) (d : Nat) (v : Value) (t : Nat) (h : d < a.tmps.size) : (a.put (some d) v).tmps.getD t undef = if d = t then v else a.tmps.getD t undef := by
  simp only [Act.put, Array.getD_eq_getD_getElem?]
  rw [Array.getElem?_setIfInBounds]
  by_cases e : d = t
  · subst e; simp [h]
  · simp [e]
theorem put_over (a : Act) (d : Nat) (v : Value) (h : a.tmps.size ≤ d) : a.put (some d) v = a := by
  simp only [Act.put]
  have : a.tmps.setIfInBounds d v = a.tmps := by simp [Array.setIfInBounds, Nat.not_lt.2 h]
  rw [this]
theorem put_size (a : Act) (d : Option Nat) (v : Value) : (a.put d v).tmps.size = a.tmps.size := by
  cases d <;> simp [Act.put]
theorem put_defers (a : Act) (d : Option Nat) (v : Value) : (a.put d v).defers = a.defers := by
  cases d <;> simp [Act.put]
theorem put_out (a : Act) (d : Nat) (v : Value) (t : Nat) (h : d ≠ t) : (a.put (some d) v).tmps.getD t undef = a.tmps.getD t undef := by
  simp only [Act.put, Array.getD_eq_getD_getElem?]
  rw [Array.getElem?_setIfInBounds]
  simp [h]

theorem homeGet_fr (st : St) (fr : Fr) (i off : Nat) : homeGet { st with fr := fr } (.cell i off) = homeGet st (.cell i off) := rfl
theorem atSlot_al {v : AV} {t : Nat} (h : v.atSlot t = true) : (∃ z lo len, v = .al z (.slot t) lo len) ∨ ∃ i off, v = .ep (.slot t) i off := by
  unfold AV.atSlot at h
  split at h
  · rename_i z u lo len
    exact .inl ⟨z, lo, len, by rw [Nat.eq_of_beq_eq_true h]⟩
  · rename_i u i off
    exact .inr ⟨i, off, by rw [Nat.eq_of_beq_eq_true h]⟩
  · cases h
theorem atSlot_mk_al (z t lo len : Nat) : (AV.al z (.slot t) lo len).atSlot t = true := Nat.beq_refl t
theorem atSlot_mk_ep (t i off : Nat) : (AV.ep (.slot t) i off).atSlot t = true := Nat.beq_refl t

/-- An alias of what isn't in slot d outlives a turn of slot d. -/
theorem home_put {γ : Gh} {st : St} {a a' : Act} {w : World} {h : Home} {d : Nat} {fr : Fr}
    (hne : h ≠ .slot d) (hfr : ∀ t, t ≠ d → (fget fr t = fget st.fr t ∨ fget fr t = .unk ∧ (fget st.fr t).owner = false)) (ho : (homeGet st h).owner = true)
    (ha : ∀ t, t ≠ d → a'.tmps.getD t undef = a.tmps.getD t undef) :
    homeGet { st with fr := fr } h = homeGet st h ∧ homeVal γ a' w h = homeVal γ a w h := by
  cases h with
  | cell => exact ⟨rfl, rfl⟩
  | slot t =>
    have e : t ≠ d := fun e => hne (by rw [e])
    refine ⟨?_, by simp only [homeVal]; rw [ha t e]⟩
    rcases hfr t e with h | ⟨_, h⟩
    · exact h
    · have : (fget st.fr t).owner = true := ho
      rw [this] at h; cases h
theorem al_not_owner {v : AV} {t : Nat} (h : v.atSlot t = true) : v.owner = false := by
  rcases atSlot_al h with ⟨z, lo, len, rfl⟩ | ⟨i, off, rfl⟩ <;> rfl

/-- A value comes into slot d; the ghost may turn, as long as what lies elsewhere is kept. -/
theorem put_any {c : Cx} {γ γ' : Gh} {st : St} {a : Act} {w w' : World} {d : Nat} {x : AV} {v : Value} (hi : Inv c γ st a w) (hd : d < st.n)
    (wd : Wd c γ' w') (hp : Hp γ' st w') (hat : x.atSlot d = false)
    (keep : ∀ t, t ≠ d → R γ w ⟨.slot t, []⟩ (fget st.fr t) (a.tmps.getD t undef) → R γ' w' ⟨.slot t, []⟩ (fget st.fr t) (a.tmps.getD t undef))
    (hv : R γ' w' ⟨.slot d, []⟩ x v)
    (cells : ∀ i off, (∃ t z lo len, fget st.fr t = .al z (.cell i off) lo len) ∨ (∃ t j o, fget st.fr t = .ep (.cell i off) j o) → homeVal γ' a w' (.cell i off) = homeVal γ a w (.cell i off))
    (hal : ∀ z h lo len, x = .al z h lo len → (homeGet st h).owner = true ∧ AlOk (homeGet st h) (homeVal γ' a w' h) z lo len v)
    (hep : ∀ h i off, x = .ep h i off → (homeGet st h).owner = true ∧ EpOk (homeGet st h) (homeVal γ' a w' h) i off v) :
    Inv c γ' { st with fr := fset st.fr d x } (a.put (some d) v) w' := by
  have hda : d < a.tmps.size := by rw [hi.fm.n]; exact hd
  have hfr : ∀ t, t ≠ d → (fget (fset st.fr d x) t = fget st.fr t ∨ fget (fset st.fr d x) t = .unk ∧ (fget st.fr t).owner = false) := by
    intro t e
    rw [fget_fset, if_neg (fun h => e h.symm)]
    by_cases k : (fget st.fr d).owner = true ∧ (fget st.fr t).atSlot d = true
    · rw [if_pos k]; exact .inr ⟨rfl, al_not_owner k.2⟩
    · rw [if_neg k]; exact .inl rfl
  have hta : ∀ t, t ≠ d → (a.put (some d) v).tmps.getD t undef = a.tmps.getD t undef := fun t e => put_out a d v t (fun h => e h.symm)
  have hself : fget (fset st.fr d x) d = x := by rw [fget_fset, if_pos rfl]
  -- an alias that is left is none of slot d
  have left : ∀ t h, t ≠ d → ((∃ z lo len, fget (fset st.fr d x) t = .al z h lo len) ∨ (∃ i off, fget (fset st.fr d x) t = .ep h i off)) →
      fget (fset st.fr d x) t = fget st.fr t ∧ h ≠ .slot d := by
    intro t h e hh
    have e1 : fget (fset st.fr d x) t = fget st.fr t := by
      rcases hfr t e with k | ⟨k, _⟩
      · exact k
      · rw [k] at hh; rcases hh with ⟨_, _, _, hh⟩ | ⟨_, _, hh⟩ <;> cases hh
    refine ⟨e1, fun hs => ?_⟩
    subst hs
    rw [e1] at hh
    have hown : (fget st.fr d).owner = true := by
      rcases hh with ⟨z, lo, len, hh⟩ | ⟨i, off, hh⟩
      · exact (hi.fm.al t z _ lo len hh).1
      · exact (hi.fm.ep t _ i off hh).1
    have hk : (fget st.fr t).atSlot d = true := by
      rcases hh with ⟨z, lo, len, hh⟩ | ⟨i, off, hh⟩ <;> rw [hh]
      · exact atSlot_mk_al ..
      · exact atSlot_mk_ep ..
    rw [fget_fset, if_neg (fun h => e h.symm), if_pos ⟨hown, hk⟩] at e1
    rw [← e1] at hh
    rcases hh with ⟨_, _, _, hh⟩ | ⟨_, _, hh⟩ <;> cases hh
  have homeV : ∀ t h, t ≠ d → ((∃ z lo len, fget st.fr t = .al z h lo len) ∨ (∃ i off, fget st.fr t = .ep h i off)) → h ≠ .slot d → homeVal γ' (a.put (some d) v) w' h = homeVal γ a w h := by
    intro t h e hh hne
    cases h with
    | slot u => simp only [homeVal]; rw [hta u (fun k => hne (by rw [k]))]
    | cell q r =>
      have := cells q r (by rcases hh with ⟨z, lo, len, hh⟩ | ⟨i, off, hh⟩; exact .inl ⟨t, z, lo, len, hh⟩; exact .inr ⟨t, i, off, hh⟩)
      rw [← this]; rfl
  refine ⟨wd, ⟨?_, hp.fresh, hp.back, hp.k⟩, ⟨?_, ?_, ?_, by rw [put_size]; exact hi.fm.n, by rw [put_defers]; exact hi.fm.defers⟩⟩
  · exact hp.obj
  · intro t
    by_cases e : t = d
    · subst e
      rw [hself, put_tmps a t v t hda, if_pos rfl]
      exact hv
    · rw [hta t e]
      rcases hfr t e with k | ⟨k, _⟩
      · rw [k]; exact keep t e (hi.fm.val t)
      · rw [k]; simp only [R]
  · intro t z h lo len he
    by_cases e : t = d
    · subst e
      have e2 : fget (fset st.fr t x) t = .al z h lo len := he
      rw [hself] at e2
      subst e2
      obtain ⟨k1, k2⟩ := hal z h lo len rfl
      have hne : h ≠ .slot t := fun k => by subst k; rw [atSlot_mk_al] at hat; cases hat
      obtain ⟨m1, m2⟩ := home_put (γ := γ') (w := w') (a := a) (a' := a.put (some t) v) hne hfr k1 hta
      rw [m1, m2, put_tmps a t v t hda, if_pos rfl]
      exact ⟨k1, k2⟩
    · have he' : fget (fset st.fr d x) t = .al z h lo len := he
      obtain ⟨e1, hne⟩ := left t h e (.inl ⟨z, lo, len, he'⟩)
      rw [e1] at he'
      obtain ⟨k1, k2⟩ := hi.fm.al t z h lo len he'
      obtain ⟨m1, m2⟩ := home_put (γ := γ) (w := w) (a := a) (a' := a.put (some d) v) hne hfr k1 hta
      rw [m1, homeV t h e (.inl ⟨z, lo, len, he'⟩) hne, hta t e]
      exact ⟨k1, k2⟩
  · intro t h i off he
    by_cases e : t = d
    · subst e
      have e2 : fget (fset st.fr t x) t = .ep h i off := he
      rw [hself] at e2
      subst e2
      obtain ⟨k1, k2⟩ := hep h i off rfl
      have hne : h ≠ .slot t := fun k => by subst k; rw [atSlot_mk_ep] at hat; cases hat
      obtain ⟨m1, m2⟩ := home_put (γ := γ') (w := w') (a := a) (a' := a.put (some t) v) hne hfr k1 hta
      rw [m1, m2, put_tmps a t v t hda, if_pos rfl]
      exact ⟨k1, k2⟩
    · have he' : fget (fset st.fr d x) t = .ep h i off := he
      obtain ⟨e1, hne⟩ := left t h e (.inr ⟨i, off, he'⟩)
      rw [e1] at he'
      obtain ⟨k1, k2⟩ := hi.fm.ep t h i off he'
      obtain ⟨m1, m2⟩ := home_put (γ := γ) (w := w) (a := a) (a' := a.put (some d) v) hne hfr k1 hta
      rw [m1, homeV t h e (.inr ⟨i, off, he'⟩) hne, hta t e]
      exact ⟨k1, k2⟩

/-- What owns nothing comes into a slot. -/
theorem put_free {c : Cx} {γ : Gh} {st : St} {a : Act} {w : World} {l : Loc} {dst : Option Nat} {x : AV} {v : Value} (hi : Inv c γ st a w)
    (hf : x.free = true) (hv : R γ w l x v)
    (hal : ∀ z h lo len, x = .al z h lo len → (homeGet st h).owner = true ∧ AlOk (homeGet st h) (homeVal γ a w h) z lo len v)
    (hep : ∀ h i off, x = .ep h i off → (homeGet st h).owner = true ∧ EpOk (homeGet st h) (homeVal γ a w h) i off v) :
    Inv c γ (dput st dst x) (a.put dst v) w := by
  cases dst with
  | none => exact hi
  | some d =>
    simp only [dput]
    cases hd : Nat.blt d st.n with
    | false =>
      have hd' := blt_f hd
      rw [put_over a d v (by rw [hi.fm.n]; omega)]
      exact hi
    | true =>
      have hd' : d < st.n := by simpa [Nat.blt_eq] using hd
      simp only [cond_true]
      cases hat : x.atSlot d with
      | false =>
        exact put_any hi hd' hi.wd hi.hp hat (fun _ _ h => h) (R_free (KeepsF.refl γ) x v hf hv) (fun _ _ _ => rfl) hal hep
      | true =>
        simp only [cond_true]
        exact put_any hi hd' hi.wd hi.hp rfl (fun _ _ h => h) (by simp only [R]) (fun _ _ _ => rfl) (fun _ _ _ _ h => by cases h) (fun _ _ _ h => by cases h)
end Go.Va
set_option linter.unusedVariables false
namespace Go.Va

/-- A slot's value is taken out. -/
theorem gone_slot {c : Cx} {γ : Gh} {st : St} {a : Act} {w : World} (t : Nat) (hi : Inv c γ st a w) : Inv c γ { st with fr := (t, .gone) :: st.fr } a w := by
  have hg : ∀ u, fget ((t, AV.gone) :: st.fr) u = if t = u then .gone else fget st.fr u := fun u => fget_cons t u _ _
  have hh : ∀ h, homeGet { st with fr := (t, .gone) :: st.fr } h = if h = .slot t then .gone else homeGet st h := by
    intro h
    cases h with
    | slot u =>
      simp only [homeGet, hg, Home.slot.injEq]
      by_cases e : t = u
      · subst e; simp
      · rw [if_neg e, if_neg (fun k => e k.symm)]
    | cell => simp only [homeGet]; rfl
  refine ⟨hi.wd, ⟨hi.hp.obj, hi.hp.fresh, hi.hp.back, hi.hp.k⟩, ⟨?_, ?_, ?_, hi.fm.n, hi.fm.defers⟩⟩
  · intro u
    show R γ w ⟨.slot u, []⟩ (fget ((t, AV.gone) :: st.fr) u) _
    rw [hg]
    by_cases e : t = u
    · rw [if_pos e]; simp only [R]
    · rw [if_neg e]; exact hi.fm.val u
  · intro u z h lo len he
    replace he : fget ((t, AV.gone) :: st.fr) u = .al z h lo len := he
    rw [hg] at he
    by_cases e : t = u
    · rw [if_pos e] at he; cases he
    · rw [if_neg e] at he
      obtain ⟨k1, k2⟩ := hi.fm.al u z h lo len he
      rw [hh]
      by_cases e : h = .slot t
      · rw [if_pos e]; exact ⟨rfl, k2.1, fun _ _ _ hx => by cases hx⟩
      · rw [if_neg e]; exact ⟨k1, k2⟩
  · intro u h i off he
    replace he : fget ((t, AV.gone) :: st.fr) u = .ep h i off := he
    rw [hg] at he
    by_cases e : t = u
    · rw [if_pos e] at he; cases he
    · rw [if_neg e] at he
      obtain ⟨k1, k2⟩ := hi.fm.ep u h i off he
      rw [hh]
      by_cases e : h = .slot t
      · rw [if_pos e]; exact ⟨rfl, k2.1, fun _ _ _ hx => by cases hx⟩
      · rw [if_neg e]; exact ⟨k1, k2⟩

/-- What belongs to place l belongs to place l' from now on. -/
def Cls.mv (l l' : Loc) : Cls → Cls
  | .own k => if k.base = l.base ∧ l.path <+: k.path then .own ⟨l'.base, l'.path ++ k.path.drop l.path.length⟩ else .own k
  | x => x
def Gh.mv (γ : Gh) (l l' : Loc) : Gh := ⟨fun b => (γ.cls b).mv l l', γ.ob⟩
theorem mv_imm {γ : Gh} {l l' : Loc} {b o} : (γ.mv l l').cls b = .imm o ↔ γ.cls b = .imm o := by
  simp only [Gh.mv]
  cases h : γ.cls b <;> simp only [Cls.mv]
  split <;> simp
theorem mv_ro {γ : Gh} {l l' : Loc} {b o} : (γ.mv l l').cls b = .ro o ↔ γ.cls b = .ro o := by
  simp only [Gh.mv]
  cases h : γ.cls b <;> simp only [Cls.mv]
  split <;> simp
theorem mv_obj {γ : Gh} {l l' : Loc} {b i} : (γ.mv l l').cls b = .obj i ↔ γ.cls b = .obj i := by
  simp only [Gh.mv]
  cases h : γ.cls b <;> simp only [Cls.mv]
  split <;> simp
theorem mv_other {γ : Gh} {l l' : Loc} {b} : (γ.mv l l').cls b = .other ↔ γ.cls b = .other := by
  simp only [Gh.mv]
  cases h : γ.cls b <;> simp only [Cls.mv]
  split <;> simp
theorem mv_to {γ : Gh} {l l' : Loc} {b} {q : List Nat} (h : γ.cls b = .own ⟨l.base, l.path ++ q⟩) : (γ.mv l l').cls b = .own ⟨l'.base, l'.path ++ q⟩ := by
  simp only [Gh.mv, h, Cls.mv]
  rw [if_pos ⟨trivial, List.prefix_append ..⟩]
  simp
theorem mv_off {γ : Gh} {l l' : Loc} {b} {k : Loc} (h : γ.cls b = .own k) (hn : k.base ≠ l.base ∨ ¬ l.path <+: k.path) : (γ.mv l l').cls b = .own k := by
  simp only [Gh.mv, h, Cls.mv]
  rw [if_neg]
  rintro ⟨a, b⟩
  rcases hn with hn | hn
  · exact hn a
  · exact hn b
theorem mv_keeps_to (γ : Gh) (w : World) (l l' : Loc) : Keeps γ (γ.mv l l') w w l l' :=
  ⟨fun _ _ h => mv_imm.2 h, fun _ _ h => mv_ro.2 h, fun _ _ h => ⟨mv_to h, rfl⟩, fun _ _ h => h⟩
theorem mv_keeps_off (γ : Gh) (w : World) (l l' : Loc) {k : Loc} (hn : k.base ≠ l.base) : Keeps γ (γ.mv l l') w w k k :=
  ⟨fun _ _ h => mv_imm.2 h, fun _ _ h => mv_ro.2 h, fun _ _ h => ⟨mv_off h (.inl hn), rfl⟩, fun _ _ h => h⟩
theorem mv_wd {c : Cx} {γ : Gh} {w : World} (l l' : Loc) (h : Wd c γ w) : Wd c (γ.mv l l') w :=
  ⟨fun b o e => h.still b o (e.imp mv_imm.1 mv_ro.1), fun b hb => by
    obtain ⟨o, e1, e2⟩ := h.low b hb
    exact ⟨o, e1, mv_imm.2 e2⟩, fun b hb => mv_other.2 (h.new b hb), h.size, h.os, h.tape, h.out⟩
/-- from a slot, or what is on its way: objects aren't touched -/
theorem mv_hp {γ : Gh} {st : St} {w : World} {l : Loc} (l' : Loc) (hl : ∀ i off, l.base ≠ .cell i off) (h : Hp γ st w) : Hp (γ.mv l l') st w :=
  ⟨fun i o e => by
    obtain ⟨b, cs, e', h1, h2, h3, h4, hbe, h5⟩ := h.obj i o e
    refine ⟨b, cs, e', h1, mv_obj.2 h2, h3, h4, hbe, fun j x hx => ?_⟩
    obtain ⟨v, k1, k2, k3⟩ := h5 j x hx
    exact ⟨v, k1, k2, R_keep x (mv_keeps_off γ w _ l' (fun e => hl _ _ e.symm)) v k3⟩, h.fresh, fun i b e => mv_obj.2 (h.back i b e), h.k⟩
theorem mv_ext {γ : Gh} {st st' : St} {w : World} (l l' : Loc) (hk : st'.k = st.k) : Ext γ st w (γ.mv l l') st' w :=
  ⟨fun _ _ h => mv_imm.2 h, fun _ _ h => mv_ro.2 h, fun _ _ h => mv_ro.1 h, fun _ _ h => ⟨mv_other.2 h, rfl⟩, Nat.le_refl _, hk, fun _ _ => rfl⟩

/-- A value goes from slot t over into slot d. -/
theorem move_slot {c : Cx} {γ : Gh} {st : St} {a : Act} {w : World} {t d : Nat} (hi : Inv c γ st a w) (hd : d < st.n)
    (hal : ∀ z h lo len, fget st.fr t ≠ .al z h lo len) (hep : ∀ h i off, fget st.fr t ≠ .ep h i off) :
    Inv c (γ.mv ⟨.slot t, []⟩ ⟨.slot d, []⟩) { st with fr := fset ((t, .gone) :: st.fr) d (fget st.fr t) } (a.put (some d) (a.tmps.getD t undef)) w := by
  have h1 := gone_slot t hi
  have hat : (fget st.fr t).atSlot d = false := by
    cases h : (fget st.fr t).atSlot d with
    | false => rfl
    | true =>
      rcases atSlot_al h with ⟨z, lo, len, e⟩ | ⟨i, off, e⟩
      · exact (hal _ _ _ _ e).elim
      · exact (hep _ _ _ e).elim
  refine put_any (st := { st with fr := (t, .gone) :: st.fr }) h1 hd (mv_wd _ _ hi.wd) (mv_hp _ (by simp) h1.hp) hat ?_ ?_ (fun _ _ _ => rfl) (fun z h lo len e => (hal _ _ _ _ e).elim) (fun h i off e => (hep _ _ _ e).elim)
  · intro u hu hr
    by_cases e : t = u
    · subst e
      show R _ w _ (fget ((t, AV.gone) :: st.fr) t) _
      rw [fget_cons, if_pos rfl]; simp only [R]
    · exact R_keep _ (mv_keeps_off γ w _ _ (by simp; exact fun k => e k.symm)) _ hr
  · exact R_keep _ (mv_keeps_to γ w _ _) _ (hi.fm.val t)
end Go.Va
set_option linter.unusedVariables false
namespace Go.Va

/-- Some blocks that belong to places below l are from now on blocks that don't change, or belong elsewhere. -/
structure Frz (γ γ' : Gh) (w : World) (l : Loc) : Prop where
  cls : ∀ b, γ'.cls b = γ.cls b ∨ (∃ q, γ.cls b = .own ⟨l.base, l.path ++ q⟩) ∧ ((∃ o, γ'.cls b = .imm o ∧ w.heap[b]? = some o) ∨ ∃ l', γ'.cls b = .own l')
  ob : γ'.ob = γ.ob
theorem Frz.refl (γ : Gh) (w : World) (l : Loc) : Frz γ γ w l := ⟨fun _ => .inl rfl, rfl⟩
theorem Frz.trans {γ γ1 γ2 : Gh} {w : World} {l : Loc} (h : Frz γ γ1 w l) (k : Frz γ1 γ2 w l) : Frz γ γ2 w l := by
  refine ⟨fun b => ?_, k.ob.trans h.ob⟩
  rcases k.cls b with e | ⟨⟨q, e⟩, r⟩
  · rw [e]; exact h.cls b
  · rcases h.cls b with e' | ⟨e', _⟩
    · exact .inr ⟨⟨q, by rw [← e']; exact e⟩, r⟩
    · exact .inr ⟨e', r⟩
theorem Frz.wider {γ γ' : Gh} {w : World} {l : Loc} {p : List Nat} (h : Frz γ γ' w ⟨l.base, l.path ++ p⟩) : Frz γ γ' w l :=
  ⟨fun b => (h.cls b).imp id fun ⟨⟨q, e⟩, r⟩ => ⟨⟨p ++ q, by simpa using e⟩, r⟩, h.ob⟩
theorem Frz.same {γ γ' : Gh} {w : World} {l : Loc} (h : Frz γ γ' w l) {b : Nat} {k : Cls} (e : γ.cls b = k) (hk : ∀ l', k ≠ .own l') : γ'.cls b = k := by
  rcases h.cls b with e1 | ⟨⟨q, e1⟩, _⟩
  · exact e1.trans e
  · rw [e] at e1; exact (hk _ e1).elim
theorem Frz.keeps {γ γ' : Gh} {w : World} {l k : Loc} (h : Frz γ γ' w l) (hn : ∀ q r, (⟨l.base, l.path ++ q⟩ : Loc) ≠ ⟨k.base, k.path ++ r⟩) : Keeps γ γ' w w k k where
  imm b o e := h.same e (by simp)
  ro b o e := h.same e (by simp)
  own b q e := by
    refine ⟨?_, rfl⟩
    rcases h.cls b with e1 | ⟨⟨r, e1⟩, _⟩
    · exact e1.trans e
    · rw [e] at e1; injection e1 with e1; exact absurd e1.symm (hn r q)
  ob i b e := by rw [h.ob]; exact e
theorem Frz.keepsF {γ γ' : Gh} {w : World} {l : Loc} (h : Frz γ γ' w l) : KeepsF γ γ' where
  imm b o e := h.same e (by simp)
  ro b o e := h.same e (by simp)
  ob i b e := by rw [h.ob]; exact e
theorem Frz.wd {c : Cx} {γ γ' : Gh} {w : World} {l : Loc} (h : Frz γ γ' w l) (k : Wd c γ w) : Wd c γ' w where
  still b o e := by
    rcases h.cls b with e1 | ⟨_, ⟨o', e2, e3⟩ | ⟨l', e2⟩⟩
    · rw [e1] at e; exact k.still b o e
    · rw [e2] at e
      rcases e with e | e
      · injection e with e; rw [← e]; exact e3
      · cases e
    · rw [e2] at e; rcases e with e | e <;> cases e
  low b hb := by
    obtain ⟨o, e1, e2⟩ := k.low b hb
    exact ⟨o, e1, h.keepsF.imm b o e2⟩
  new b hb := h.same (k.new b hb) (by simp)
  size := k.size
  os := k.os
  tape := k.tape
  out := k.out
theorem Frz.obj {γ γ' : Gh} {w : World} {l : Loc} (h : Frz γ γ' w l) {b i} (e : γ.cls b = .obj i) : γ'.cls b = .obj i := h.same e (by simp)
theorem Frz.ext {γ γ' : Gh} {st st' : St} {w : World} {l : Loc} (h : Frz γ γ' w l) (hk : st'.k = st.k) : Ext γ st w γ' st' w where
  imm := h.keepsF.imm
  ro := h.keepsF.ro
  ro' b o e := by
    rcases h.cls b with e1 | ⟨_, ⟨o', e2, _⟩ | ⟨l', e2⟩⟩
    · rw [e1] at e; exact e
    · rw [e2] at e; cases e
    · rw [e2] at e; cases e
  other b _ e := ⟨h.same e (by simp), rfl⟩
  size := Nat.le_refl _
  k := hk
  ob i _ := by rw [h.ob]
theorem Frz.mv (γ : Gh) (w : World) (l l' : Loc) : Frz γ (γ.mv l l') w l := by
  refine ⟨fun b => ?_, rfl⟩
  cases e : γ.cls b with
  | own k =>
    simp only [Gh.mv, e, Cls.mv]
    split
    · rename_i h
      obtain ⟨h1, q, h2⟩ := h
      exact .inr ⟨⟨q, by rw [h2, ← h1]⟩, .inr ⟨_, rfl⟩⟩
    · exact .inl rfl
  | imm o => exact .inl (mv_imm.2 e)
  | ro o => exact .inl (mv_ro.2 e)
  | obj i => exact .inl (mv_obj.2 e)
  | other => exact .inl (mv_other.2 e)
theorem Frz.hp_slot {γ γ' : Gh} {st : St} {w : World} {t : Nat} {p : List Nat} (h : Frz γ γ' w ⟨.slot t, p⟩) (k : Hp γ st w) : Hp γ' st w where
  obj i o e := by
    obtain ⟨b, cs, e', h1, h2, h3, h4, hbe, h5⟩ := k.obj i o e
    refine ⟨b, cs, e', by rw [h.ob]; exact h1, h.obj h2, h3, h4, hbe, fun j x hx => ?_⟩
    obtain ⟨v, k1, k2, k3⟩ := h5 j x hx
    exact ⟨v, k1, k2, R_keep x (h.keeps (by intro q r e; injection e with e1 e2; cases e1)) v k3⟩
  fresh i hi := by rw [h.ob]; exact k.fresh i hi
  back i b e := by rw [h.ob] at e; exact h.obj (k.back i b e)
  k := k.k

/-- one slice is frozen -/
theorem frz_sl {γ : Gh} {w : World} {l : Loc} {z : Nat} {xs : List AV} {v : Value} (h : R γ w l (.sl z xs .full) v) :
    ∃ γ', Frz γ γ' w l ∧ ∀ l', R γ' w l' (.sl z xs .imm) v := by
  simp only [R] at h
  rcases h with ⟨rfl, rfl⟩ | ⟨b, cap, c, e, rfl, hb, hh, hs, hl, hn⟩
  · refine ⟨γ, .refl .., fun l' => ?_⟩
    simp only [R, V, D]
    exact ⟨none, 0, rfl, Nat.le_refl _, .inl trivial⟩
  · have f : Frz γ ⟨fun x => if x = b then .imm (.cells c e (0, 0)) else γ.cls x, γ.ob⟩ w l := by
      refine ⟨fun x => ?_, rfl⟩
      by_cases e1 : x = b
      · subst e1
        exact .inr ⟨⟨[], by simpa using hb⟩, .inl ⟨_, by simp, hh⟩⟩
      · exact .inl (by simp [e1])
    refine ⟨_, f, fun l' => ?_⟩
    simp only [R, V, D]
    exact ⟨some ⟨b, 0, none⟩, cap, rfl, hl, .inr ⟨b, 0, _, rfl, by simp, Dn_frame f.keepsF.imm xs z _ 0 hn⟩⟩

theorem Rl_len {γ : Gh} {w : World} : ∀ (xs : List AV) {l : Loc} {n : Nat} {vs : List Value}, Rl γ w l n xs vs → vs.length = xs.length
  | [], _, _, vs, h => by simp only [Rl] at h; rw [h]; rfl
  | x :: xs, _, _, vs, h => by
    simp only [Rl] at h
    obtain ⟨v, vs', rfl, _, h2⟩ := h
    simp [Rl_len xs h2]
theorem Rl_keepEach {γ γ' : Gh} {w w' : World} {l l' : Loc} : ∀ (xs : List AV) {n : Nat} {vs : List Value}, (∀ m, n ≤ m → Keeps γ γ' w w' (l.sub m) (l'.sub m)) → Rl γ w l n xs vs → Rl γ' w' l' n xs vs
  | [], _, vs, h, hr => by simp only [Rl] at hr ⊢; exact hr
  | x :: xs, n, vs, h, hr => by
    simp only [Rl] at hr ⊢
    obtain ⟨v, vs', e, h1, h2⟩ := hr
    exact ⟨v, vs', e, R_keep x (h n (Nat.le_refl _)) v h1, Rl_keepEach xs (fun m hm => h m (by omega)) h2⟩
theorem Rl_get {γ : Gh} {w : World} : ∀ (xs : List AV) {l : Loc} {n : Nat} {vs : List Value}, Rl γ w l n xs vs → ∀ j x, xs[j]? = some x → ∃ v, vs[j]? = some v ∧ R γ w (l.sub (n + j)) x v
  | [], _, _, vs, h, j, x, e => by simp at e
  | y :: xs, l, n, vs, h, j, x, e => by
    simp only [Rl] at h
    obtain ⟨v, vs', rfl, h1, h2⟩ := h
    cases j with
    | zero => simp at e; subst e; exact ⟨v, by simp, h1⟩
    | succ j =>
      simp at e
      obtain ⟨u, e1, e2⟩ := Rl_get xs h2 j x e
      exact ⟨u, by simpa using e1, by rwa [show n + 1 + j = n + (j + 1) by omega] at e2⟩

/-- the cells of a struct, frozen -/
theorem plain_free : ∀ (xs ys : List AV), plainL xs = some ys → freeL ys = true
  | [], ys, h => by simp only [plainL] at h; cases h; rfl
  | x :: xs, ys, h => by
    simp only [plainL] at h
    cases hx : x.plain1 with
    | none => rw [hx] at h; cases h
    | some y =>
      cases hu : plainL xs with
      | none => rw [hx, hu] at h; cases h
      | some zs =>
        rw [hx, hu] at h; cases h
        simp only [freeL, plain_free xs zs hu, Bool.and_true]
        unfold AV.plain1 at hx
        split at hx <;> cases hx <;> rfl
theorem frz_plain1 {γ : Gh} {w : World} {l : Loc} {x y : AV} {v : Value} (hx : x.plain1 = some y) (h : R γ w l x v) :
    ∃ γ', Frz γ γ' w l ∧ R γ' w l y v := by
  unfold AV.plain1 at hx
  split at hx <;> cases hx
  · exact ⟨γ, .refl .., h⟩
  · exact ⟨γ, .refl .., h⟩
  · obtain ⟨γ', h1, h2⟩ := frz_sl h
    exact ⟨γ', h1, h2 _⟩
  · exact ⟨γ, .refl .., h⟩
  · exact ⟨γ, .refl .., h⟩
  · exact ⟨γ, .refl .., h⟩
theorem frz_plainL {w : World} {l : Loc} : ∀ (xs ys : List AV) {γ : Gh} (n : Nat) (vs : List Value), plainL xs = some ys → Rl γ w l n xs vs →
    ∃ γ', Frz γ γ' w l ∧ Rl γ' w l n ys vs
  | [], ys, γ, n, vs, h, hr => by simp only [plainL] at h; cases h; exact ⟨γ, .refl .., hr⟩
  | x :: xs, ys, γ, n, vs, h, hr => by
    simp only [plainL] at h
    cases hx : x.plain1 with
    | none => rw [hx] at h; cases h
    | some y =>
      cases hu : plainL xs with
      | none => rw [hx, hu] at h; cases h
      | some zs =>
        rw [hx, hu] at h; cases h
        simp only [Rl] at hr
        obtain ⟨v, vs', rfl, h1, h2⟩ := hr
        obtain ⟨γ1, f1, r1⟩ := frz_plain1 hx h1
        have hrest : Rl γ1 w l (n + 1) xs vs' := by
          refine Rl_keepEach xs (fun m hm => ?_) h2
          refine f1.keeps (fun q r e => ?_)
          simp only [Loc.sub] at e
          injection e with e1 e2
          rw [List.append_assoc, List.append_assoc] at e2
          have := List.append_cancel_left e2
          simp at this
          omega
        obtain ⟨γ2, f2, r2⟩ := frz_plainL xs zs (n + 1) vs' hu hrest
        refine ⟨γ2, (Frz.wider f1).trans f2, ?_⟩
        simp only [Rl]
        exact ⟨v, vs', rfl, R_free f2.keepsF y v (by have := plain_free (x :: []) (y :: []) (by simp only [plainL, hx]); simpa [freeL] using this) r1, r2⟩
end Go.Va
