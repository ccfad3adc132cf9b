/- The verified abstract interpreter, a part of it: no statement of its own. -/
import Derived.Test.YtmklimlepgiffabVa25
set_option linter.unusedVariables false
set_option linter.unusedSimpArgs false
set_option linter.unusedVariables false
namespace Go.Va
theorem Keeps.trans {γ γ1 γ2 : Gh} {w w1 w2 : World} {l l1 l2 : Loc} (h : Keeps γ γ1 w w1 l l1) (k : Keeps γ1 γ2 w1 w2 l1 l2) : Keeps γ γ2 w w2 l l2 where
  imm b o e := k.imm b o (h.imm b o e)
  ro b o e := k.ro b o (h.ro b o e)
  own b q e := by
    obtain ⟨e1, e2⟩ := h.own b q e
    obtain ⟨e3, e4⟩ := k.own b q e1
    exact ⟨e3, e4.trans e2⟩
  ob i b e := k.ob i b (h.ob i b e)
section
variable {c : Cx} {γ : Gh} {st : St} {a : Act} {w : World} {o : Oper} {env : Env} {i : Nat}
/-- one object more -/
theorem add_obj (hi : Inv c γ st a w) {γ' : Gh} (wd : Wd c γ' w) {b : Nat} {cs : Array Value} {el : TypeId} {ob : Obj}
    (hob : ∀ i, γ'.ob i = if i = st.O.length then some b else γ.ob i) (hb : γ'.cls b = .obj st.O.length) (hh : w.heap[b]? = some (.cells cs el (0, 0))) (hs : cs.size = ob.length) (hbe : bldOk el ob.length = true)
    (hc : ∀ j x, ob[j]? = some x → ∃ u, cs[j]? = some u ∧ one u ∧ R γ' w ⟨.cell st.O.length j, []⟩ x u)
    (keep : ∀ l : Loc, l.base ≠ .limbo 0 → Keeps γ γ' w w l l) (hback : ∀ i b', γ.ob i = some b' → γ'.cls b' = .obj i) : Inv c γ' { st with O := st.O ++ [ob] } a w := by
  have hnone : γ.ob st.O.length = none := hi.hp.fresh _ (Nat.le_refl _)
  have hne : ∀ {i b'}, γ.ob i = some b' → i ≠ st.O.length := by rintro i b' e rfl; rw [hnone] at e; cases e
  have hat : ∀ i, i ≠ st.O.length → objAt { st with O := st.O ++ [ob] } i = objAt st i := by
    intro i h
    simp only [objAt, lget_eq]
    by_cases k : i < st.O.length
    · rw [List.getElem?_append_left k]
    · rw [List.getElem?_eq_none (by simp; omega), List.getElem?_eq_none (by omega)]
  have hat2 : objAt { st with O := st.O ++ [ob] } st.O.length = some ob := by
    simp only [objAt, lget_eq]
    rw [List.getElem?_append_right (Nat.le_refl _)]
    simp
  have hhome : ∀ h, (homeGet st h).owner = true → homeGet { st with O := st.O ++ [ob] } h = homeGet st h ∧ homeVal γ' a w h = homeVal γ a w h := by
    intro h ho
    cases h with
    | slot t => exact ⟨rfl, rfl⟩
    | cell i off =>
      have hne : i ≠ st.O.length := by
        rintro rfl
        simp only [homeGet, objAt, lget_eq] at ho
        rw [List.getElem?_eq_none (Nat.le_refl _)] at ho
        cases ho
      refine ⟨by simp only [homeGet, hat i hne], ?_⟩
      simp only [homeVal]
      rw [hob, if_neg hne]
  refine ⟨wd, ⟨?_, ?_, ?_, ?_⟩, ⟨?_, ?_, ?_, hi.fm.n, hi.fm.defers⟩⟩
  · intro i o' e
    by_cases hne : i = st.O.length
    · subst hne
      rw [hat2] at e
      cases e
      exact ⟨b, cs, el, by rw [hob, if_pos rfl], hb, hh, hs, hbe, hc⟩
    · rw [hat i hne] at e
      obtain ⟨b', cs', el', h1, h2, h3, h4, hbe, h5⟩ := hi.hp.obj i o' e
      refine ⟨b', cs', el', by rw [hob, if_neg hne, h1], hback _ _ h1, h3, h4, hbe, fun j x hx => ?_⟩
      obtain ⟨v, k1, k2, k3⟩ := h5 j x hx
      exact ⟨v, k1, k2, R_keep x (keep _ (by simp)) v k3⟩
  · intro i h
    simp only [List.length_append, List.length_singleton] at h
    rw [hob, if_neg (by omega)]
    exact hi.hp.fresh i (by omega)
  · intro i b' e
    rw [hob] at e
    by_cases hne : i = st.O.length
    · rw [if_pos hne] at e
      cases e
      rw [hne]; exact hb
    · rw [if_neg hne] at e
      exact hback _ _ e
  · have := hi.hp.k
    simp only [List.length_append, List.length_singleton]
    omega
  · exact fun t => R_keep _ (keep _ (by simp)) _ (hi.fm.val t)
  · intro t z h lo len e
    obtain ⟨k1, k2⟩ := hi.fm.al t z h lo len e
    obtain ⟨m1, m2⟩ := hhome h k1
    rw [m1, m2]
    exact ⟨k1, k2⟩
  · intro t h i off e
    obtain ⟨k1, k2⟩ := hi.fm.ep t h i off e
    obtain ⟨m1, m2⟩ := hhome h k1
    rw [m1, m2]
    exact ⟨k1, k2⟩
/-- a new variable that is on its way comes to be an object -/
theorem reg_lim (hi : Inv c γ st a w) {xs : List AV} {v : Value} (hr : R γ w (lim 0) (.nb xs) v) :
    ∃ γ', Inv c γ' { st with O := st.O ++ [xs] } a w ∧ Ext γ st w γ' { st with O := st.O ++ [xs] } w ∧ ∀ l, R γ' w l (.ptr st.O.length 0) v := by
  simp only [R] at hr
  obtain ⟨b, cs, el, rfl, hb, hh, h1, hbe, hl⟩ := hr
  have hnone : γ.ob st.O.length = none := hi.hp.fresh _ (Nat.le_refl _)
  have f := Frz.spread (γ.reg st.O.length b) w 0 (fun j => (⟨.cell st.O.length j, []⟩ : Loc))
  have keep : ∀ l : Loc, l.base ≠ .limbo 0 → Keeps γ ((γ.reg st.O.length b).spread 0 (fun j => (⟨.cell st.O.length j, []⟩ : Loc))) w w l l := by
    intro l h
    refine (reg_keeps (.inr ⟨_, hb, fun q e => ?_⟩) hnone (fun _ _ _ => rfl)).trans (f.keeps (fun q r e => ?_))
    · injection e with e _; exact h e.symm
    · injection e with e _; exact h e.symm
  have keepj : ∀ j, Keeps γ ((γ.reg st.O.length b).spread 0 (fun j => (⟨.cell st.O.length j, []⟩ : Loc))) w w ⟨.limbo 0, [j]⟩ ⟨.cell st.O.length j, []⟩ := by
    intro j
    refine (reg_keeps (.inr ⟨_, hb, fun q e => ?_⟩) hnone (fun _ _ _ => rfl)).trans (spread_keeps _ w 0 _ j)
    injection e with _ e
    cases e
  have hcb : ((γ.reg st.O.length b).spread 0 (fun j => (⟨.cell st.O.length j, []⟩ : Loc))).cls b = .obj st.O.length := by
    simp [Gh.spread, Gh.reg, Cls.spread]
  have hcls : ∀ x k, γ.cls x = k → (∀ l, k ≠ .own l) → ((γ.reg st.O.length b).spread 0 (fun j => (⟨.cell st.O.length j, []⟩ : Loc))).cls x = k := by
    intro x k e hk
    have hne : x ≠ b := by rintro rfl; rw [hb] at e; exact hk _ e.symm
    simp only [Gh.spread, Gh.reg, if_neg hne, e]
    cases k <;> first | rfl | exact (hk _ rfl).elim
  have hrev : ∀ x k, ((γ.reg st.O.length b).spread 0 (fun j => (⟨.cell st.O.length j, []⟩ : Loc))).cls x = k → (∀ l, k ≠ .own l) → (∀ i, k ≠ .obj i) → γ.cls x = k := by
    intro x k e hk hk2
    have hne : x ≠ b := by rintro rfl; rw [hcb] at e; exact hk2 _ e.symm
    simp only [Gh.spread, Gh.reg, if_neg hne] at e
    cases hx : γ.cls x with
    | own l =>
      rw [hx] at e
      obtain ⟨base, p⟩ := l
      cases base with
      | limbo k' =>
        simp only [Cls.spread] at e
        split at e
        · cases p <;> exact (hk _ e.symm).elim
        · exact (hk _ e.symm).elim
      | _ => exact (hk _ e.symm).elim
    | _ => rw [hx] at e; exact e
  have wd : Wd c ((γ.reg st.O.length b).spread 0 (fun j => (⟨.cell st.O.length j, []⟩ : Loc))) w := by
    refine ⟨fun x o e => ?_, fun x hx => ?_, fun x hx => hcls x _ (hi.wd.new x hx) (by simp), hi.wd.size, hi.wd.os, hi.wd.tape, hi.wd.out⟩
    · exact hi.wd.still x o (e.imp (fun e => hrev x _ e (by simp) (by simp)) (fun e => hrev x _ e (by simp) (by simp)))
    · obtain ⟨o', e1, e2⟩ := hi.wd.low x hx
      exact ⟨o', e1, hcls x _ e2 (by simp)⟩
  refine ⟨_, add_obj hi wd (b := b) (cs := cs) (el := el) (fun i => rfl) hcb hh (by simpa using Rl_len xs hl) hbe (fun j x hx => ?_) keep (fun i b' e => hcls b' _ (hi.hp.back i b' e) (by simp)), ⟨?_, ?_, ?_, ?_, Nat.le_refl _, rfl, ?_⟩, fun l => ?_⟩
  · obtain ⟨u, e1, e2⟩ := Rl_get xs hl j x hx
    rw [Nat.zero_add] at e2
    exact ⟨u, by simpa using e1, h1 u (List.mem_of_getElem? e1), R_keep x (keepj j) u e2⟩
  · exact fun x o e => hcls x _ e (by simp)
  · exact fun x o e => hcls x _ e (by simp)
  · exact fun x o e => hrev x _ e (by simp) (by simp)
  · exact fun x _ e => ⟨hcls x _ e (by simp), rfl⟩
  · intro i h
    have := hi.hp.k
    simp only [Gh.spread, Gh.reg]
    rw [if_neg (by omega)]
  · simp only [R]
    exact ⟨b, by simp [Gh.spread, Gh.reg], rfl⟩
theorem put_same (a : Act) (t : Nat) : a.put (some t) (a.tmps.getD t undef) = a := by
  simp only [Act.put]
  have : a.tmps.setIfInBounds t (a.tmps.getD t undef) = a.tmps := by
    apply Array.ext_getElem?
    intro i
    rw [Array.getElem?_setIfInBounds]
    split
    · rename_i e
      subst e
      split
      · rename_i h
        simp [h]
      · rename_i h
        rw [Array.getElem?_eq_none (by omega)]
    · rfl
  rw [this]
theorem regNew_ok : ∀ (ts : List Nat) {γ : Gh} {st : St}, Inv c γ st a w → ∃ γ', Inv c γ' (regNew st ts) a w ∧ Ext γ st w γ' (regNew st ts) w
  | [], γ, st, hi => ⟨γ, hi, .refl ..⟩
  | t :: ts, γ, st, hi => by
    unfold regNew
    split
    · rename_i xs hx
      obtain ⟨γ1, d, f⟩ := go_slot t 0 hi ⟨by simp [hx], by simp [hx]⟩
      rw [hx] at f
      obtain ⟨γ2, h1, h2, h3⟩ := reg_lim d.inv f.rel
      have h4 := put_free (dst := some t) (l := lim 0) (x := .ptr st.O.length 0) h1 rfl (h3 _) (fun _ _ _ _ e => by cases e) (fun _ _ _ e => by cases e)
      rw [put_same] at h4
      obtain ⟨γ3, k1, k2⟩ := regNew_ok ts h4
      exact ⟨γ3, k1, (d.ext.trans h2).trans (Ext.trans (st1 := dput { st with fr := (t, .gone) :: st.fr, O := st.O ++ [xs] } (some t) (.ptr st.O.length 0)) (.fr _ _ _ (by simp only [dput]; cases Nat.blt t st.n <;> rfl)) k2)⟩
    · exact regNew_ok ts hi
end
end Go.Va
set_option linter.unusedVariables false
namespace Go.Va
theorem hasN_t {t : Nat} : ∀ {l : List Nat}, hasN t l = true ↔ t ∈ l
  | [] => by simp [hasN]
  | u :: l => by
    simp only [hasN, Bool.or_eq_true, List.mem_cons, hasN_t (l := l)]
    constructor
    · rintro (h | h)
      · exact .inl (beq_t h).symm
      · exact .inr h
    · rintro (h | h)
      · subst h; exact .inl (Nat.beq_refl _)
      · exact .inr h
theorem fget_keepAll (A : Ar) (live : List Nat) (st : St) (t : Nat) : ∀ l : List Nat, fget (keepAll A live st l) t = bif hasN t l then keepV A live st (fget st.fr t) else .unk
  | [] => by simp [keepAll, fget, hasN]
  | u :: l => by
    simp only [keepAll, fget_cons, hasN]
    by_cases e : u = t
    · subst e; simp [Nat.beq_refl]
    · rw [if_neg e, fget_keepAll A live st t l]
      have : Nat.beq u t = false := by
        cases hb : Nat.beq u t with
        | true => exact (e (beq_t hb)).elim
        | false => rfl
      rw [this]; rfl
/-- what belongs to slots that aren't live doesn't change any more -/
def Gh.drop (γ : Gh) (w : World) (live : List Nat) : Gh := ⟨fun b => match γ.cls b with
  | .own ⟨.slot t, []⟩ => bif hasN t live then .own ⟨.slot t, []⟩ else (match w.heap[b]? with | some o => .imm o | none => .own ⟨.slot t, []⟩)
  | k => k, γ.ob⟩
section
variable {c : Cx} {γ : Gh} {st : St} {a : Act} {w : World} {o : Oper} {env : Env} {i : Nat}
theorem drop_same {live : List Nat} {b : Nat} {k : Cls} (h : γ.cls b = k) (hk : ∀ t, k = .own ⟨.slot t, []⟩ → hasN t live = true) : (γ.drop w live).cls b = k := by
  simp only [Gh.drop, h]
  split
  · rename_i t
    rw [hk t rfl]; rfl
  · rfl
theorem drop_imm {live : List Nat} {b : Nat} {t : Nat} {o : Go.Obj} (h : γ.cls b = .own ⟨.slot t, []⟩) (ht : hasN t live = false) (ho : w.heap[b]? = some o) : (γ.drop w live).cls b = .imm o := by
  simp only [Gh.drop, h, ht, cond_false, ho]
theorem drop_rev {live : List Nat} {b : Nat} {k : Cls} (h : (γ.drop w live).cls b = k) : γ.cls b = k ∨ ∃ o, k = .imm o ∧ w.heap[b]? = some o := by
  simp only [Gh.drop] at h
  split at h
  · rename_i t e
    cases hl : hasN t live with
    | true => rw [hl] at h; exact .inl (e.trans h)
    | false =>
      rw [hl] at h
      simp only [cond_false] at h
      cases ho : w.heap[b]? with
      | none => rw [ho] at h; exact .inl (e.trans h)
      | some o => rw [ho] at h; exact .inr ⟨o, h.symm, by first | rfl | exact ho⟩
  · exact .inl h
theorem drop_keeps {live : List Nat} {l : Loc} (hl : ∀ t, l.base = .slot t → hasN t live = true) : Keeps γ (γ.drop w live) w w l l where
  imm b o e := drop_same e (by simp)
  ro b o e := drop_same e (by simp)
  own b q e := ⟨drop_same e (fun t k => by injection k with k; injection k with k _; exact hl t k), rfl⟩
  ob i b e := e
theorem keep_ok {live : List Nat} (hi : Inv c γ st a w) : Inv c (γ.drop w live) { st with fr := keepAll realAr live st live } a w ∧ Ext γ st w (γ.drop w live) { st with fr := keepAll realAr live st live } w := by
  have hfree : KeepsF γ (γ.drop w live) := ⟨fun b o e => drop_same e (by simp), fun b o e => drop_same e (by simp), fun i b e => e⟩
  have hg : ∀ t, fget (keepAll realAr live st live) t = bif hasN t live then keepV realAr live st (fget st.fr t) else .unk := fun t => fget_keepAll realAr live st t live
  have hV : ∀ h, homeVal (γ.drop w live) a w h = homeVal γ a w h := by
    intro h
    cases h <;> rfl
  -- an alias that stays
  have stay : ∀ t x, fget (keepAll realAr live st live) t = x → (∀ z h lo len, x = .al z h lo len → fget st.fr t = x ∧ ∀ u, h = .slot u → hasN u live = true) ∧ (∀ h i off, x = .ep h i off → fget st.fr t = x ∧ ∀ u, h = .slot u → hasN u live = true) := by
    intro t x e
    rw [hg] at e
    cases ht : hasN t live with
    | false => rw [ht] at e; subst e; exact ⟨fun _ _ _ _ e => (by cases e), fun _ _ _ e => (by cases e)⟩
    | true =>
      rw [ht] at e
      simp only [cond_true] at e
      unfold keepV at e
      split at e
      · rename_i z u lo len hx
        cases hu : hasN u live with
        | true =>
          rw [hu] at e
          subst e
          exact ⟨fun z h lo len e => ⟨rfl, fun u' hu' => by rw [hx] at e; cases e; cases hu'; exact hu⟩, fun _ _ _ e => (by rw [hx] at e; cases e)⟩
        | false =>
          rw [hu] at e
          simp only [cond_false] at e
          split at e
          · cases hk : realAr.nle (lo + len) (List.length ‹List AV›) with
            | true => rw [hk] at e; subst e; exact ⟨fun _ _ _ _ e => (by cases e), fun _ _ _ e => (by cases e)⟩
            | false => rw [hk] at e; subst e; exact ⟨fun _ _ _ _ e => (by cases e), fun _ _ _ e => (by cases e)⟩
          · cases hk : realAr.nle (lo + len) (List.length ‹List AV›) with
            | true => rw [hk] at e; subst e; exact ⟨fun _ _ _ _ e => (by cases e), fun _ _ _ e => (by cases e)⟩
            | false => rw [hk] at e; subst e; exact ⟨fun _ _ _ _ e => (by cases e), fun _ _ _ e => (by cases e)⟩
          · subst e; exact ⟨fun _ _ _ _ e => (by cases e), fun _ _ _ e => (by cases e)⟩
      · rename_i u i off hx
        cases hu : hasN u live with
        | true =>
          rw [hu] at e
          subst e
          exact ⟨fun _ _ _ _ e => (by rw [hx] at e; cases e), fun h i off e => ⟨rfl, fun u' hu' => by rw [hx] at e; cases e; cases hu'; exact hu⟩⟩
        | false =>
          rw [hu] at e
          subst e
          exact ⟨fun _ _ _ _ e => (by cases e), fun _ _ _ e => (by cases e)⟩
      · rename_i h1 h2
        subst e
        exact ⟨fun z h lo len e => ⟨rfl, fun u hu => (h1 z u lo len (by rw [e, hu])).elim⟩, fun h i off e => ⟨rfl, fun u hu => (h2 u i off (by rw [e, hu])).elim⟩⟩
  have home : ∀ h, (homeGet st h).owner = true → (∀ u, h = .slot u → hasN u live = true) → homeGet { st with fr := keepAll realAr live st live } h = homeGet st h := by
    intro h ho hl
    cases h with
    | cell => rfl
    | slot u =>
      have e : homeGet { st with fr := keepAll realAr live st live } (.slot u) = fget (keepAll realAr live st live) u := rfl
      rw [e, hg, hl u rfl]
      simp only [cond_true]
      have ho : (fget st.fr u).owner = true := ho
      unfold keepV
      split
      · rename_i h; rw [h] at ho; cases ho
      · rename_i h; rw [h] at ho; cases ho
      · rfl
  refine ⟨⟨?_, ?_, ⟨?_, ?_, ?_, hi.fm.n, hi.fm.defers⟩⟩, ?_⟩
  · refine ⟨fun b o e => ?_, fun b hb => ?_, fun b hb => drop_same (hi.wd.new b hb) (by simp), hi.wd.size, hi.wd.os, hi.wd.tape, hi.wd.out⟩
    · rcases e with e | e
      · rcases drop_rev e with k | ⟨o', k1, k2⟩
        · exact hi.wd.still b o (.inl k)
        · cases k1; exact k2
      · rcases drop_rev e with k | ⟨o', k1, k2⟩
        · exact hi.wd.still b o (.inr k)
        · cases k1
    · obtain ⟨o', e1, e2⟩ := hi.wd.low b hb
      exact ⟨o', e1, drop_same e2 (by simp)⟩
  · refine ⟨fun i o e => ?_, hi.hp.fresh, fun i b e => drop_same (hi.hp.back i b e) (by simp), hi.hp.k⟩
    obtain ⟨b, cs, el, h1, h2, h3, h4, hbe, h5⟩ := hi.hp.obj i o e
    refine ⟨b, cs, el, h1, drop_same h2 (by simp), h3, h4, hbe, fun j x hx => ?_⟩
    obtain ⟨v, k1, k2, k3⟩ := h5 j x hx
    exact ⟨v, k1, k2, R_keep x (drop_keeps (by simp)) v k3⟩
  · intro t
    show R _ w _ (fget (keepAll realAr live st live) t) _
    rw [hg]
    cases ht : hasN t live with
    | false => simp only [cond_false, R]
    | true =>
      simp only [cond_true]
      have same : R (γ.drop w live) w ⟨.slot t, []⟩ (fget st.fr t) (a.tmps.getD t undef) := R_keep _ (drop_keeps (by intro u e; cases e; exact ht)) _ (hi.fm.val t)
      unfold keepV
      split
      · rename_i z u lo len hx
        cases hu : hasN u live with
        | true => simp only [cond_true]; exact same
        | false =>
          simp only [cond_false]
          obtain ⟨ho, al⟩ := hi.fm.al t z _ lo len hx
          have hv := hi.fm.val u
          split
          · rename_i z2 xs hg2
            cases hk : realAr.nle (lo + len) xs.length with
            | false => simp only [cond_false, R]
            | true =>
              simp only [cond_true]
              obtain ⟨e0, e1, ha, cap, a', e2, e3, e4, e5⟩ := al.2 _ _ _ hg2 _ rfl
              rw [hg2] at hv
              have hi2 : V (γ.drop w live).cls (.sl z2 xs .imm) (a.tmps.getD u undef) := by
                simp only [R] at hv
                simp only [V, D]
                rcases hv with ⟨rfl, e⟩ | ⟨b, cap', cs, el, e, hb, hh, hs, hl, hn⟩
                · exact ⟨none, 0, by rw [e]; rfl, Nat.le_refl _, .inl rfl⟩
                · exact ⟨_, cap', by rw [e], hl, .inr ⟨b, 0, _, rfl, drop_imm hb hu hh, Dn_frame hfree.imm xs z2 _ 0 hn⟩⟩
              subst e0
              have := imm_cut hi2 e1 e2 e3 e5
              simpa only [R] using this
          · rename_i z2 xs hg2
            cases hk : realAr.nle (lo + len) xs.length with
            | false => simp only [cond_false, R]
            | true =>
              simp only [cond_true]
              obtain ⟨e0, e1, ha, cap, a', e2, e3, e4, e5⟩ := al.2 _ _ _ hg2 _ rfl
              rw [hg2] at hv
              simp only [R] at hv
              have hi2 := V_frame hfree.imm hfree.ro _ _ hv
              subst e0
              have := imm_cut hi2 e1 e2 e3 e5
              simpa only [R] using this
          · simp only [R]
      · rename_i u i off hx
        cases hu : hasN u live with
        | true => simp only [cond_true]; exact same
        | false => simp only [cond_false, R]
      · exact same
  · intro t z h lo len e
    obtain ⟨e1, e2⟩ := (stay t _ e).1 z h lo len rfl
    obtain ⟨k1, k2⟩ := hi.fm.al t z h lo len e1
    rw [home h k1 e2, hV]
    exact ⟨k1, k2⟩
  · intro t h i off e
    obtain ⟨e1, e2⟩ := (stay t _ e).2 h i off rfl
    obtain ⟨k1, k2⟩ := hi.fm.ep t h i off e1
    rw [home h k1 e2, hV]
    exact ⟨k1, k2⟩
  · refine ⟨hfree.imm, hfree.ro, fun b o e => ?_, fun b _ e => ⟨drop_same e (by simp), rfl⟩, Nat.le_refl _, rfl, fun _ _ => rfl⟩
    rcases drop_rev e with k | ⟨o', k1, k2⟩
    · exact k
    · cases k1
end
end Go.Va
set_option linter.unusedVariables false
namespace Go.Va
/-- without object n -/
def Gh.less (γ : Gh) (n : Nat) : Gh := ⟨γ.cls, fun i => if i = n then none else γ.ob i⟩
mutual
theorem R_less {γ : Gh} {w : World} {n : Nat} : ∀ (x : AV) {l : Loc} (v : Value), refObj n x = false → R γ w l x v → R (γ.less n) w l x v
  | .s v, _, _, _, hr => by simp only [R] at hr ⊢; exact hr
  | .agg xs, _, _, h, hr => by
    simp only [refObj] at h
    simp only [R] at hr ⊢
    obtain ⟨cs, e, ho, hl⟩ := hr
    exact ⟨cs, e, ho, Rl_less xs 0 _ h hl⟩
  | .tup xs, _, _, h, hr => by
    simp only [refObj] at h
    simp only [R] at hr ⊢
    obtain ⟨cs, e, hl⟩ := hr
    exact ⟨cs, e, Rl_less xs 0 _ h hl⟩
  | .sl z xs .imm, _, _, _, hr => by simp only [R] at hr ⊢; exact hr
  | .sl z xs .ro, _, _, _, hr => by simp only [R] at hr ⊢; exact hr
  | .sl z xs .full, _, _, _, hr => by simp only [R] at hr ⊢; exact hr
  | .rp r xs, _, _, _, hr => by simp only [R] at hr ⊢; exact hr
  | .ptr i off, _, _, h, hr => by
    simp only [R] at hr ⊢
    obtain ⟨b, hb, e⟩ := hr
    have hne : i ≠ n := by
      rintro rfl
      simp [refObj, Nat.beq_refl] at h
    exact ⟨b, by simp only [Gh.less, if_neg hne]; exact hb, e⟩
  | .nb xs, _, _, h, hr => by
    simp only [refObj] at h
    simp only [R] at hr ⊢
    obtain ⟨b, cs, e, ev, hb, hh, ho, hbe, hl⟩ := hr
    exact ⟨b, cs, e, ev, hb, hh, ho, hbe, Rl_less xs 0 _ h hl⟩
  | .fn f first caps, _, _, h, hr => by
    simp only [refObj, Bool.or_eq_false_iff] at h
    simp only [R] at hr ⊢
    obtain ⟨fa, ca, e, h1, h2⟩ := hr
    exact ⟨fa, ca, e, Rl_less first 0 _ h.1 h1, Rl_less caps _ _ h.2 h2⟩
  | .al .., _, _, _, hr => by simp only [R]
  | .ep .., _, _, _, hr => by simp only [R]
  | .gone, _, _, _, hr => by simp only [R]
  | .unk, _, _, _, hr => by simp only [R]
theorem Rl_less {γ : Gh} {w : World} {n : Nat} : ∀ (xs : List AV) {l : Loc} (m : Nat) (vs : List Value), refObj.refObjL n xs = false → Rl γ w l m xs vs → Rl (γ.less n) w l m xs vs
  | [], _, m, vs, _, hr => by simp only [Rl] at hr ⊢; exact hr
  | x :: xs, _, m, vs, h, hr => by
    simp only [refObj.refObjL, Bool.or_eq_false_iff] at h
    simp only [Rl] at hr ⊢
    obtain ⟨v, vs', e, h1, h2⟩ := hr
    exact ⟨v, vs', e, R_less x v h.1 h1, Rl_less xs (m + 1) vs' h.2 h2⟩
end
theorem refFr_get {n t : Nat} : ∀ {fr : Fr}, refFr n fr = false → refObj n (fget fr t) = false
  | [], _ => by simp [fget, refObj]
  | (u, v) :: fr, h => by
    simp only [refFr, Bool.or_eq_false_iff] at h
    rw [fget_cons]
    by_cases e : u = t
    · rw [if_pos e]; exact h.1
    · rw [if_neg e]; exact refFr_get h.2
theorem refL_get {n : Nat} : ∀ {xs : List AV}, refObj.refObjL n xs = false → ∀ (j : Nat) (x : AV), xs[j]? = some x → refObj n x = false
  | [], _, j, x, e => by simp at e
  | y :: ys, h, j, x, e => by
    simp only [refObj.refObjL, Bool.or_eq_false_iff] at h
    cases j with
    | zero => simp at e; subst e; exact h.1
    | succ j => exact refL_get h.2 j x (by simpa using e)
theorem refSeg_get {n : Nat} : ∀ {O : Seg}, refSeg n O = false → ∀ (j : Nat) (x : Obj), O[j]? = some x → refObj.refObjL n x = false
  | [], _, j, x, e => by simp at e
  | y :: ys, h, j, x, e => by
    simp only [refSeg, Bool.or_eq_false_iff] at h
    cases j with
    | zero => simp at e; subst e; exact h.1
    | succ j => exact refSeg_get h.2 j x (by simpa using e)
section
variable {c : Cx} {γ : Gh} {st : St} {a : Act} {w : World} {o : Oper} {env : Env} {i : Nat}
theorem pop_one (hi : Inv c γ st a w) {n : Nat} (hn : st.O.length = n + 1) (hk : st.k ≤ n) (hf : refFr n st.fr = false) (hs : refSeg n st.O.dropLast = false) :
    Inv c (γ.less n) { st with O := st.O.dropLast } a w ∧ Ext γ st w (γ.less n) { st with O := st.O.dropLast } w := by
  have hat : ∀ i, i ≠ n → objAt { st with O := st.O.dropLast } i = objAt st i := by
    intro i h
    simp only [objAt, lget_eq]
    rw [List.getElem?_dropLast]
    by_cases k : i < n
    · rw [if_pos (by omega)]
    · rw [if_neg (by omega), List.getElem?_eq_none (by omega)]
  have hhome : ∀ h, (∀ off, h ≠ .cell n off) → homeGet { st with O := st.O.dropLast } h = homeGet st h ∧ homeVal (γ.less n) a w h = homeVal γ a w h := by
    intro h hne
    cases h with
    | slot t => exact ⟨rfl, rfl⟩
    | cell i off =>
      have hne : i ≠ n := by rintro rfl; exact hne off rfl
      refine ⟨by simp only [homeGet, hat i hne], ?_⟩
      simp only [homeVal, Gh.less, if_neg hne]
  refine ⟨⟨⟨hi.wd.still, hi.wd.low, hi.wd.new, hi.wd.size, hi.wd.os, hi.wd.tape, hi.wd.out⟩, ⟨?_, ?_, ?_, ?_⟩, ⟨?_, ?_, ?_, hi.fm.n, hi.fm.defers⟩⟩, ⟨fun _ _ e => e, fun _ _ e => e, fun _ _ e => e, fun _ _ e => ⟨e, rfl⟩, Nat.le_refl _, rfl, ?_⟩⟩
  · intro i o e
    have hlt := objAt_lt e
    simp only [List.length_dropLast] at hlt
    have hne : i ≠ n := by omega
    rw [hat i hne] at e
    obtain ⟨b, cs, el, h1, h2, h3, h4, hbe, h5⟩ := hi.hp.obj i o e
    refine ⟨b, cs, el, by simp only [Gh.less, if_neg hne]; exact h1, h2, h3, h4, hbe, fun j x hx => ?_⟩
    obtain ⟨v, k1, k2, k3⟩ := h5 j x hx
    refine ⟨v, k1, k2, R_less x v ?_ k3⟩
    have e' : st.O.dropLast[i]? = some o := by
      rw [List.getElem?_dropLast, if_pos (by omega)]
      simpa only [objAt, lget_eq] using e
    exact refL_get (refSeg_get hs i o e') j x hx
  · intro i h
    simp only [List.length_dropLast] at h
    simp only [Gh.less]
    split
    · rfl
    · exact hi.hp.fresh i (by omega)
  · intro i b e
    simp only [Gh.less] at e ⊢
    split at e
    · cases e
    · exact hi.hp.back i b e
  · simp only [List.length_dropLast]; omega
  · exact fun t => R_less _ _ (refFr_get hf) (hi.fm.val t)
  · intro t z h lo len e
    obtain ⟨k1, k2⟩ := hi.fm.al t z h lo len e
    have := refFr_get (t := t) hf
    have e' : fget st.fr t = .al z h lo len := e
    rw [e'] at this
    obtain ⟨m1, m2⟩ := hhome h (by rintro off rfl; simp [refObj, Nat.beq_refl] at this)
    rw [m1, m2]
    exact ⟨k1, k2⟩
  · intro t h i off e
    obtain ⟨k1, k2⟩ := hi.fm.ep t h i off e
    have := refFr_get (t := t) hf
    have e' : fget st.fr t = .ep h i off := e
    rw [e'] at this
    obtain ⟨m1, m2⟩ := hhome h (by rintro off rfl; simp [refObj, Nat.beq_refl] at this)
    rw [m1, m2]
    exact ⟨k1, k2⟩
  · intro i h
    simp only [Gh.less]
    rw [if_neg (by omega)]
theorem pop_ok {k : Nat} : ∀ (n : Nat) {γ : Gh} {st : St}, Inv c γ st a w → st.k = k → ∃ γ', Inv c γ' { st with O := popDead k st.fr n st.O } a w ∧ Ext γ st w γ' { st with O := popDead k st.fr n st.O } w
  | 0, γ, st, hi, _ => ⟨γ, hi, .refl ..⟩
  | n + 1, γ, st, hi, hk => by
    unfold popDead
    cases hc : Nat.ble k n && (Nat.beq st.O.length (n + 1) && !(refFr n st.fr || refSeg n st.O.dropLast)) with
    | false => exact ⟨γ, hi, .refl ..⟩
    | true =>
      simp only [Bool.and_eq_true, Bool.not_eq_true', Bool.or_eq_false_iff] at hc
      obtain ⟨h1, h2⟩ := pop_one hi (beq_t hc.2.1) (by rw [hk]; exact ble_t hc.1) hc.2.2.1 hc.2.2.2
      obtain ⟨γ', h3, h4⟩ := pop_ok n (st := { st with O := st.O.dropLast }) h1 hk
      exact ⟨γ', h3, h2.trans h4⟩
theorem regNew_k : ∀ (ts : List Nat) (st : St), (regNew st ts).n = st.n ∧ (regNew st ts).k = st.k
  | [], st => ⟨rfl, rfl⟩
  | t :: ts, st => by
    unfold regNew
    split
    · obtain ⟨h1, h2⟩ := regNew_k ts (dput { st with fr := (t, .gone) :: st.fr, O := st.O ++ [‹List AV›] } (some t) (.ptr st.O.length 0))
      rw [h1, h2]
      simp only [dput]
      cases Nat.blt t st.n <;> exact ⟨rfl, rfl⟩
    · exact regNew_k ts st
theorem end0_ok {A : Ar} (hA : A = realAr) (live : List Nat) (hi : Inv c γ st a w) : ∃ γ', Inv c γ' (endRegion0 A live st) a w ∧ Ext γ st w γ' (endRegion0 A live st) w := by
  subst hA
  obtain ⟨γ1, h1, e1⟩ := regNew_ok live hi
  obtain ⟨h2, e2⟩ := keep_ok (live := live) h1
  obtain ⟨hn, hk⟩ := regNew_k live st
  obtain ⟨γ3, h3, e3⟩ := pop_ok (k := st.k) (regNew st live).O.length h2 hk
  refine ⟨γ3, ?_, ?_⟩
  · have : endRegion0 realAr live st = { (regNew st live) with fr := keepAll realAr live (regNew st live) live, O := popDead st.k (keepAll realAr live (regNew st live) live) (regNew st live).O.length (regNew st live).O } := by
      unfold endRegion0
      rw [← hn, ← hk]
    rw [this]; exact h3
  · have : endRegion0 realAr live st = { (regNew st live) with fr := keepAll realAr live (regNew st live) live, O := popDead st.k (keepAll realAr live (regNew st live) live) (regNew st live).O.length (regNew st live).O } := by
      unfold endRegion0
      rw [← hn, ← hk]
    rw [this]; exact (e1.trans e2).trans e3
end
end Go.Va
set_option linter.unusedVariables false
namespace Go.Va
section
variable {c : Cx} {γ : Gh} {st : St} {a : Act} {w : World} {o : Oper} {env : Env} {i : Nat}
theorem adopt1_ok {live : List Nat} {u : Nat} (hi : Inv c γ st a w) : ∃ γ', Inv c γ' (adopt1 realAr live st u) a w ∧ Ext γ st w γ' (adopt1 realAr live st u) w := by
  have triv : ∃ γ', Inv c γ' st a w ∧ Ext γ st w γ' st w := ⟨γ, hi, .refl ..⟩
  unfold adopt1
  split
  · rename_i z t lo len hu
    cases hl : hasN t live with
    | true => exact triv
    | false =>
      simp only [cond_false]
      split
      · rename_i z2 xs hg
        cases hk : Nat.beq lo 0 && realAr.nle len xs.length && Nat.beq (countAl t st live) 1 with
        | false => exact triv
        | true =>
          simp only [cond_true]
          simp only [Bool.and_eq_true] at hk
          have k1 := beq_t hk.1.1
          have k2 : len ≤ xs.length := by simpa [realAr] using hk.1.2
          subst k1
          obtain ⟨_, al⟩ := hi.fm.al u _ _ _ _ hu
          obtain ⟨e0, e1, ha, cap, a', e2, e3, e4, e5⟩ := al.2 _ _ _ (show homeGet st (.slot t) = _ from hg) _ rfl
          have e4 := e4 rfl
          subst e4
          rw [Nat.sub_zero] at e3
          obtain ⟨γ1, d, f⟩ := go_slot t 0 hi ⟨by simp [hg], by simp [hg]⟩
          have hv := f.rel
          rw [hg, e2] at hv
          have hnew : R γ1 w (lim 0) (.sl z2 (xs.take len) .full) (a.tmps.getD u undef) := by
            simp only [R] at hv ⊢
            rcases hv with ⟨rfl, e⟩ | ⟨b2, cap2, cs2, el2, q1, q2, q3, q4, q5, q6⟩
            · left
              injection e with e8 _ e9
              subst e8 e9
              have : len = 0 := by simpa using k2
              subst this
              exact ⟨by simp, e3⟩
            · right
              injection q1 with q1 _ q7
              subst q1 q7
              exact ⟨b2, cap, cs2, el2, by rw [e3]; congr 1; simp; omega, q2, q3, q4, by simp; omega, Dn_take _ _ q6⟩
          obtain ⟨γ2, h1, h2⟩ := put_flow (some u) d.inv (.free hnew (by simp) (by simp))
          rw [put_same] at h1
          exact ⟨γ2, h1, d.ext.trans h2⟩
      · exact triv
  · exact triv
theorem adopt_ok {live : List Nat} : ∀ (us : List Nat) {γ : Gh} {st : St}, Inv c γ st a w → ∃ γ', Inv c γ' (adopt realAr live us st) a w ∧ Ext γ st w γ' (adopt realAr live us st) w
  | [], γ, st, hi => ⟨γ, hi, .refl ..⟩
  | u :: us, γ, st, hi => by
    unfold adopt
    obtain ⟨γ1, h1, h2⟩ := adopt1_ok (live := live) (u := u) hi
    obtain ⟨γ2, h3, h4⟩ := adopt_ok us h1
    exact ⟨γ2, h3, h2.trans h4⟩
theorem end_ok {A : Ar} (hA : A = realAr) (live : List Nat) (hi : Inv c γ st a w) : ∃ γ', Inv c γ' (endRegion A live st) a w ∧ Ext γ st w γ' (endRegion A live st) w := by
  subst hA
  obtain ⟨γ1, h1, h2⟩ := adopt_ok (live := live) live hi
  obtain ⟨γ2, h3, h4⟩ := end0_ok rfl live h1
  exact ⟨γ2, h3, h2.trans h4⟩
end
end Go.Va
