/- The verified abstract interpreter, a part of it: no statement of its own. -/
import Derived.Test.YtmklimlepgiffabVa26
set_option linter.unusedVariables false
set_option linter.unusedSimpArgs false
set_option linter.unusedVariables false
namespace Go.Va
theorem posN_some {i : Nat} : ∀ {m : List Nat} {j : Nat}, posN i m = some j → m[j]? = some i
  | [], j, h => by simp [posN] at h
  | k :: m, j, h => by
    simp only [posN] at h
    cases hb : Nat.beq k i with
    | true =>
      rw [hb] at h
      simp only [cond_true, Option.some.injEq] at h
      subst h
      rw [beq_t hb]; rfl
    | false =>
      rw [hb] at h
      simp only [cond_false] at h
      cases hp : posN i m with
      | none => rw [hp] at h; cases h
      | some q =>
        rw [hp] at h
        cases h
        simpa using posN_some hp
theorem posN_none {i : Nat} : ∀ {m : List Nat}, posN i m = none → i ∉ m
  | [], _ => by simp
  | k :: m, h => by
    simp only [posN] at h
    cases hb : Nat.beq k i with
    | true => rw [hb] at h; cases h
    | false =>
      rw [hb] at h
      simp only [cond_false] at h
      cases hp : posN i m with
      | some q => rw [hp] at h; cases h
      | none =>
        have := posN_none hp
        simp only [List.mem_cons, not_or]
        refine ⟨?_, this⟩
        rintro rfl
        rw [Nat.beq_refl] at hb; cases hb
theorem posN_get {m : List Nat} (hm : m.Nodup) {i j : Nat} (h : m[j]? = some i) : posN i m = some j := by
  cases hp : posN i m with
  | none => exact (posN_none hp (List.mem_of_getElem? h)).elim
  | some q =>
    have := posN_some hp
    have hj : j < m.length := by
      by_cases k : j < m.length
      · exact k
      · rw [List.getElem?_eq_none (by omega)] at h; cases h
    have hq : q < m.length := by
      by_cases k : q < m.length
      · exact k
      · rw [List.getElem?_eq_none (by omega)] at this; cases this
    rw [List.getElem?_eq_getElem hj] at h
    rw [List.getElem?_eq_getElem hq] at this
    have e : m[q] = m[j] := by injection h with h; injection this with this; rw [h, this]
    rw [(List.getElem_inj hm).1 e]
/-- what isn't handed over isn't written meanwhile -/
def roAt (w : World) (b : Nat) : Cls := match w.heap[b]? with
  | some o => .ro o
  | none => .other
def entC (w : World) (m : List Nat) (b : Nat) : Cls → Cls
  | .imm o => .imm o
  | .ro o => .ro o
  | .other => .other
  | .obj i => match posN i m with
    | some j => .obj j
    | none => roAt w b
  | .own ⟨.cell i off, p⟩ => match posN i m with
    | some j => .own ⟨.cell j off, p⟩
    | none => roAt w b
  | .own ⟨.limbo k, p⟩ => .own ⟨.slot k, p⟩
  | .own ⟨.slot _, _⟩ => roAt w b
/-- the callee's view: objects m are its first ones; what is on its way under k belongs to its slot k -/
def Gh.ent (γ : Gh) (w : World) (m : List Nat) : Gh := ⟨fun b => entC w m b (γ.cls b), fun j => (lget m j).bind γ.ob⟩

/-- What is said of a value lives on, objects being numbered anew. -/
structure KeepsR (γ γ' : Gh) (w w' : World) (l l' : Loc) (f : Nat → Option Nat) : Prop where
  imm : ∀ b o, γ.cls b = .imm o → γ'.cls b = .imm o
  ro : ∀ b o, γ.cls b = .ro o → γ'.cls b = .ro o
  own : ∀ b q, γ.cls b = .own ⟨l.base, l.path ++ q⟩ → γ'.cls b = .own ⟨l'.base, l'.path ++ q⟩ ∧ w'.heap[b]? = w.heap[b]?
  ob : ∀ i j b, f i = some j → γ.ob i = some b → γ'.ob j = some b
theorem KeepsR.sub {γ γ' : Gh} {w w' : World} {l l' : Loc} {f : Nat → Option Nat} (h : KeepsR γ γ' w w' l l' f) (n m : Nat) (e : n = m) : KeepsR γ γ' w w' (l.sub n) (l'.sub m) f :=
  ⟨h.imm, h.ro, fun b q k => by
    subst e
    have := h.own b (n :: q) (by simpa [Loc.sub] using k)
    simpa [Loc.sub] using this, h.ob⟩
mutual
theorem R_ren {γ γ' : Gh} {w w' : World} {m : List Nat} : ∀ (x : AV) {y : AV} {l l' : Loc} (v : Value), x.ren m = some y → KeepsR γ γ' w w' l l' (fun i => posN i m) → R γ w l x v → R γ' w' l' y v
  | .s u, y, _, _, v, h, k, hr => by simp only [AV.ren] at h; cases h; simp only [R] at hr ⊢; exact hr
  | .agg xs, y, _, _, v, h, k, hr => by
    simp only [AV.ren] at h
    cases hu : AV.ren.renL m xs with
    | none => rw [hu] at h; cases h
    | some ys =>
      rw [hu] at h; cases h
      simp only [R] at hr ⊢
      obtain ⟨cs, e, ho, hl⟩ := hr
      exact ⟨cs, e, ho, Rl_ren xs 0 0 rfl _ hu k hl⟩
  | .sl z xs .imm, y, _, _, v, h, k, hr => by
    simp only [AV.ren] at h; cases h
    simp only [R] at hr ⊢
    exact V_frame k.imm k.ro _ _ hr
  | .sl z xs .ro, y, _, _, v, h, k, hr => by
    simp only [AV.ren] at h; cases h
    simp only [R] at hr ⊢
    exact V_frame k.imm k.ro _ _ hr
  | .sl z xs .full, y, l, l', v, h, k, hr => by
    simp only [AV.ren] at h; cases h
    simp only [R] at hr ⊢
    refine hr.imp id ?_
    rintro ⟨b, cap, c, e, ev, hb, hh, hs, hl, hn⟩
    obtain ⟨k1, k2⟩ := k.own b [] (by simpa using hb)
    exact ⟨b, cap, c, e, ev, by simpa using k1, k2.trans hh, hs, hl, Dn_frame k.imm xs z _ 0 hn⟩
  | .rp r xs, y, _, _, v, h, k, hr => by
    simp only [AV.ren] at h; cases h
    simp only [R] at hr ⊢
    exact V_frame k.imm k.ro _ _ hr
  | .ptr i off, y, _, _, v, h, k, hr => by
    simp only [AV.ren] at h
    cases hp : posN i m with
    | none => rw [hp] at h; cases h
    | some j =>
      rw [hp] at h; cases h
      simp only [R] at hr ⊢
      obtain ⟨b, hb, e⟩ := hr
      exact ⟨b, k.ob i j b hp hb, e⟩
  | .fn f first caps, y, _, _, v, h, k, hr => by
    simp only [AV.ren] at h
    cases hu : AV.ren.renL m first with
    | none => rw [hu] at h; cases h
    | some ys =>
      cases hw : AV.ren.renL m caps with
      | none => rw [hu, hw] at h; cases h
      | some zs =>
        rw [hu, hw] at h; cases h
        simp only [R] at hr ⊢
        obtain ⟨fa, ca, e, h1, h2⟩ := hr
        have hlen := renL_len first hu
        refine ⟨fa, ca, e, Rl_ren first 0 0 rfl _ hu k h1, ?_⟩
        exact Rl_ren caps _ _ hlen _ hw k h2
  | .gone, y, _, _, v, h, k, hr => by simp only [AV.ren] at h; cases h; simp only [R]
  | .unk, y, _, _, v, h, k, hr => by simp only [AV.ren] at h; cases h; simp only [R]
  | .tup _, y, _, _, v, h, k, hr => by simp only [AV.ren] at h; cases h
  | .al .., y, _, _, v, h, k, hr => by simp only [AV.ren] at h; cases h
  | .ep .., y, _, _, v, h, k, hr => by simp only [AV.ren] at h; cases h
  | .nb _, y, _, _, v, h, k, hr => by simp only [AV.ren] at h; cases h
theorem Rl_ren {γ γ' : Gh} {w w' : World} {m : List Nat} : ∀ (xs : List AV) {ys : List AV} {l l' : Loc} (n n' : Nat) (e : n = n') (vs : List Value), AV.ren.renL m xs = some ys → KeepsR γ γ' w w' l l' (fun i => posN i m) → Rl γ w l n xs vs → Rl γ' w' l' n' ys vs
  | [], ys, _, _, n, n', e, vs, h, k, hr => by simp only [AV.ren.renL] at h; cases h; simp only [Rl] at hr ⊢; exact hr
  | x :: xs, ys, _, _, n, n', e, vs, h, k, hr => by
    simp only [AV.ren.renL] at h
    cases hx : x.ren m with
    | none => rw [hx] at h; cases h
    | some y =>
      cases hu : AV.ren.renL m xs with
      | none => rw [hx, hu] at h; cases h
      | some zs =>
        rw [hx, hu] at h; cases h
        simp only [Rl] at hr ⊢
        obtain ⟨v, vs', e1, h1, h2⟩ := hr
        exact ⟨v, vs', e1, R_ren x v hx (k.sub n n' e) h1, Rl_ren xs (n + 1) (n' + 1) (by omega) vs' hu k h2⟩
theorem renL_len {m : List Nat} : ∀ (xs : List AV) {ys : List AV}, AV.ren.renL m xs = some ys → xs.length = ys.length
  | [], ys, h => by simp only [AV.ren.renL] at h; cases h; rfl
  | x :: xs, ys, h => by
    simp only [AV.ren.renL] at h
    cases hx : x.ren m with
    | none => rw [hx] at h; cases h
    | some y =>
      cases hu : AV.ren.renL m xs with
      | none => rw [hx, hu] at h; cases h
      | some zs =>
        rw [hx, hu] at h; cases h
        simp [renL_len xs hu]
end
theorem renL_get {m : List Nat} : ∀ (xs : List AV) {ys : List AV}, AV.ren.renL m xs = some ys → ∀ (j : Nat) (y : AV), ys[j]? = some y → ∃ x, xs[j]? = some x ∧ x.ren m = some y
  | [], ys, h, j, y, e => by simp only [AV.ren.renL] at h; cases h; simp at e
  | x :: xs, ys, h, j, y, e => by
    simp only [AV.ren.renL] at h
    cases hx : x.ren m with
    | none => rw [hx] at h; cases h
    | some y' =>
      cases hu : AV.ren.renL m xs with
      | none => rw [hx, hu] at h; cases h
      | some zs =>
        rw [hx, hu] at h; cases h
        cases j with
        | zero => simp at e; subst e; exact ⟨x, by simp, hx⟩
        | succ j =>
          obtain ⟨x', h1, h2⟩ := renL_get xs hu j y (by simpa using e)
          exact ⟨x', by simpa using h1, h2⟩
theorem renObjs_get {m : List Nat} {O : Seg} : ∀ (l : List Nat) {O' : Seg}, renObjs m O l = some O' → O'.length = l.length ∧ ∀ (j : Nat) (p : Obj), O'[j]? = some p → ∃ i o, l[j]? = some i ∧ O[i]? = some o ∧ AV.ren.renL m o = some p
  | [], O', h => by simp only [renObjs] at h; cases h; exact ⟨rfl, fun j p e => by simp at e⟩
  | i :: l, O', h => by
    simp only [renObjs, lget_eq] at h
    cases ho : O[i]? with
    | none => rw [ho] at h; cases h
    | some o =>
      rw [ho] at h
      simp only at h
      cases hx : AV.ren.renL m o with
      | none => rw [hx] at h; cases h
      | some p' =>
        cases hu : renObjs m O l with
        | none => rw [hx, hu] at h; cases h
        | some ps =>
          rw [hx, hu] at h; cases h
          obtain ⟨k1, k2⟩ := renObjs_get l hu
          refine ⟨by simp [k1], fun j p e => ?_⟩
          cases j with
          | zero => simp at e; subst e; exact ⟨i, o, by simp, ho, hx⟩
          | succ j =>
            obtain ⟨i', o', h1, h2, h3⟩ := k2 j p (by simpa using e)
            exact ⟨i', o', by simpa using h1, h2, h3⟩
theorem reachF_nodup {O : Seg} : ∀ (n : Nat) (todo acc : List Nat) {m : List Nat}, acc.Nodup → reachF O n todo acc = some m → m.Nodup ∧ acc <+: m
  | n, [], acc, m, h, e => by unfold reachF at e; cases e; exact ⟨h, List.prefix_refl _⟩
  | 0, _ :: _, acc, m, h, e => by simp [reachF] at e
  | n + 1, i :: todo, acc, m, h, e => by
    simp only [reachF] at e
    cases hb : hasN i acc with
    | true => rw [hb] at e; exact reachF_nodup n todo acc h e
    | false =>
      rw [hb] at e
      simp only [cond_false] at e
      cases ho : lget O i with
      | none => rw [ho] at e; cases e
      | some o =>
        rw [ho] at e
        simp only at e
        have hn : i ∉ acc := fun k => by rw [hasN_t.2 k] at hb; cases hb
        have h2 : (acc ++ [i]).Nodup := by
          rw [List.nodup_append]
          refine ⟨h, by simp, ?_⟩
          intro x hx y hy
          simp at hy
          subst hy
          rintro rfl
          exact hn hx
        obtain ⟨k1, k2⟩ := reachF_nodup n _ _ h2 e
        exact ⟨k1, (List.prefix_append _ _).trans k2⟩
end Go.Va
set_option linter.unusedVariables false
namespace Go.Va
section
variable {c : Cx} {γ : Gh} {st : St} {a : Act} {w : World} {o : Oper} {env : Env} {i : Nat}
theorem takeV_al {st st1 : St} {x : Operand} {z lo len : Nat} {h : Home} (e : takeV st x = some (.al z h lo len, st1)) : ∃ t, x = .tmp t ∧ fget st.fr t = .al z h lo len ∧ st1 = st := by
  unfold takeV at e
  cases x with
  | tmp t =>
    simp only at e
    refine ⟨t, rfl, ?_⟩
    split at e
    · cases e
    · cases e
    · cases e
    · cases e
    · cases e
    · rename_i f p q _
      cases hc : okCaps p && okCaps q with
      | true => rw [hc] at e; cases e
      | false => rw [hc] at e; cases e
    · injection e with e
      injection e with e1 e2
      exact ⟨e1, e2.symm⟩
  | const v =>
    simp only [opd, constV] at e
    split at e <;> cases e
  | func f => simp [opd] at e
  | global g => simp [opd] at e
theorem gone_al {st : St} {s t z lo len : Nat} {h : Home} (e : fget st.fr t = .al z h lo len) (hs : ∀ z h lo len, fget st.fr s ≠ .al z h lo len) : fget ((s, AV.gone) :: st.fr) t = .al z h lo len := by
  rw [fget_cons]
  by_cases q : s = t
  · subst q; exact (hs _ _ _ _ e).elim
  · rw [if_neg q]; exact e
theorem takeV_keep {st st1 : St} {x : Operand} {y : AV} (e : takeV st x = some (y, st1)) {t z lo len : Nat} {h : Home} (ht : fget st.fr t = .al z h lo len) : fget st1.fr t = .al z h lo len := by
  unfold takeV at e
  cases x with
  | tmp s =>
    simp only at e
    split at e
    · rename_i hs; cases e; exact gone_al ht (by simp [hs])
    · rename_i hs; cases e; exact gone_al ht (by simp [hs])
    · rename_i hs; cases e; exact gone_al ht (by simp [hs])
    · rename_i hs; cases e; exact gone_al ht (by simp [hs])
    · cases e
    · rename_i f p q _
      cases hc : okCaps p && okCaps q with
      | true => rw [hc] at e; cases e; exact ht
      | false => rw [hc] at e; cases e
    · cases e; exact ht
  | const v => cases e; exact ht
  | func f => cases e; exact ht
  | global g => cases e; exact ht
/-- what lies at a home goes on its way -/
theorem take_home_k (k : Nat) {h : Home} {z : Nat} {xs : List AV} {p : Perm} (hi : Inv c γ st a w) (hg : homeGet st h = .sl z xs p) : ∃ γ' u, homeVal γ a w h = some u ∧ Did c γ st γ' (homePut st h .gone) a w (· ≠ k) ∧
    R γ' w (lim k) (.sl z xs p) u := by
  obtain ⟨u, hu, hR⟩ := home_rel (h := h) hi (by rw [hg]; simp)
  rw [hg] at hR
  have f := Frz.mv γ w (homeLoc h) (lim k)
  obtain ⟨k1, _, k3⟩ := turn_home (h := h) (x := .gone) hi (by rw [hg]; simp) f (fun v e => by simp only [R]) (fun _ _ _ e => by cases e) (fun _ => rfl) (by simp) (by simp)
  exact ⟨_, u, hu, ⟨k1, k3, fun n hn q x v e => R_keep _ (f.keeps (fun q r => homeLoc_lim h n q r n _)) _ e⟩, R_keep _ (mv_keeps_to γ w _ _) _ hR⟩
theorem lim_did {γ' : Gh} {k : Nat} (hi : Inv c γ st a w) (f : Frz γ γ' w (lim k)) : Did c γ st γ' st a w (· ≠ k) :=
  ⟨lim_inv hi f, f.ext rfl, fun n hn q x v e => R_keep _ (f.keeps (by intro q r e; injection e with e _; injection e with e; exact hn e.symm)) _ e⟩
/-- an argument -/
theorem argV_ok {st1 : St} {x : Operand} {y : AV} {mode : Nat} (k : Nat) (hi : Inv c γ st a w) (h : argV realAr st x mode = some (y, st1)) :
    ∃ γ1, Did c γ st γ1 st1 a w (· ≠ k) ∧ R γ1 w (lim k) y (a.eval x) ∧ (∀ z hm lo len, y = .al z hm lo len → ∃ t, x = .tmp t ∧ fget st1.fr t = y) ∧
      (∀ t z hm lo len, fget st.fr t = .al z hm lo len → fget st1.fr t = .al z hm lo len) := by
  unfold argV at h
  cases ht : takeV st x with
  | none => rw [ht] at h; cases h
  | some r =>
    obtain ⟨y0, st0⟩ := r
    rw [ht] at h
    obtain ⟨γ0, d0, f0⟩ := takeV_ok k hi ht
    have keep0 : ∀ t z hm lo len, fget st.fr t = .al z hm lo len → fget st0.fr t = .al z hm lo len := fun _ _ _ _ _ e => takeV_keep ht e
    cases y0 with
    | al z hm lo len =>
      obtain ⟨t, hx, hf, hs⟩ := takeV_al ht
      subst hs
      simp only at h
      split at h
      · cases h
        exact ⟨γ0, d0, f0.rel, fun _ _ _ _ e => ⟨t, hx, hf⟩, fun _ _ _ _ _ e => e⟩
      · split at h
        · rename_i z2 xs hg
          cases hk : Nat.beq lo 0 && realAr.neq len xs.length with
          | false => rw [hk] at h; cases h
          | true =>
            rw [hk] at h
            cases h
            rw [Bool.and_eq_true] at hk
            have k1 := beq_t hk.1
            have k2 : len = xs.length := by simpa [realAr] using hk.2
            obtain ⟨γ1, u, hu, d1, r1⟩ := take_home_k k d0.inv hg
            obtain ⟨_, al⟩ := f0.al _ _ _ _ rfl
            obtain ⟨e0, e1, ha, cap, a', e2, e3, e4, e5⟩ := al.2 _ _ _ hg u hu
            have e4 := e4 k1
            have : a.eval x = u := by rw [e3, e2, e4, k1, k2, Nat.sub_zero]
            refine ⟨γ1, d0.trans d1, by rw [this]; exact r1, fun _ _ _ _ e => (by cases e), fun t' z' h' lo' len' e => ?_⟩
            cases hm with
            | slot s =>
              simp only [homePut, fget_cons]
              by_cases q : s = t'
              · subst q
                have : fget st0.fr s = .sl z2 xs .full := hg
                rw [this] at e; cases e
              · rw [if_neg q]; exact e
            | cell i off =>
              simp only [homePut]
              split <;> exact e
        · cases h
      · split at h
        · rename_i z2 xs st2 hf2
          cases hk : realAr.nle (lo + len) xs.length with
          | false => rw [hk] at h; cases h
          | true =>
            rw [hk] at h
            cases h
            obtain ⟨γ1, d1, u, p, g1, g2, g3⟩ := freezeAt_ok d0.inv hf2
            obtain ⟨_, hal⟩ := f0.al z hm lo len rfl
            obtain ⟨e1, e2, ha, cap, a', e3, e4, e5, e6⟩ := hal.2 _ _ _ g1 u g2
            subst e1
            refine ⟨γ1, d0.trans (d1.weaken fun _ _ => trivial), ?_, fun _ _ _ _ e => (by cases e), fun t' z' h' lo' len' e => ?_⟩
            · simp only [R]
              exact imm_cut g3 e2 e3 e4 e6
            · unfold freezeAt at hf2
              rw [g1] at hf2
              cases p with
              | full =>
                simp only [Option.some.injEq, Prod.mk.injEq] at hf2
                obtain ⟨_, _, rfl⟩ := hf2
                cases hm with
                | slot s =>
                  simp only [homePut, fget_cons]
                  by_cases q : s = t'
                  · subst q
                    have : fget st0.fr s = .sl z2 xs .full := g1
                    rw [this] at e; cases e
                  · rw [if_neg q]; exact e
                | cell i off =>
                  simp only [homePut]
                  split <;> exact e
              | imm =>
                simp only [Option.some.injEq, Prod.mk.injEq] at hf2
                obtain ⟨_, _, rfl⟩ := hf2
                exact e
              | ro => cases hf2
        · cases h
    | agg xs =>
      simp only at h
      cases hp : plainL xs with
      | none => rw [hp] at h; cases h
      | some ys =>
        rw [hp] at h
        cases h
        have hr := f0.rel
        simp only [R] at hr
        obtain ⟨cs, e, ho, hl⟩ := hr
        obtain ⟨γ', f, hl'⟩ := frz_plainL xs ys 0 cs.toList hp hl
        refine ⟨γ', d0.trans (lim_did d0.inv f), ?_, fun _ _ _ _ e => (by cases e), keep0⟩
        simp only [R]
        exact ⟨cs, e, ho, hl'⟩
    | sl z xs p =>
      simp only at h
      split at h
      · cases h
        have hr := f0.rel
        obtain ⟨γ', f, hv⟩ := frz_sl hr
        exact ⟨γ', d0.trans (lim_did d0.inv f), hv _, fun _ _ _ _ e => (by cases e), keep0⟩
      · cases h
        exact ⟨γ0, d0, f0.rel, fun _ _ _ _ e => (by cases e), keep0⟩
    | s v => cases h; exact ⟨γ0, d0, f0.rel, fun _ _ _ _ e => (by cases e), keep0⟩
    | rp r xs => cases h; exact ⟨γ0, d0, f0.rel, fun _ _ _ _ e => (by cases e), keep0⟩
    | ptr i off => cases h; exact ⟨γ0, d0, f0.rel, fun _ _ _ _ e => (by cases e), keep0⟩
    | fn f a b => cases h; exact ⟨γ0, d0, f0.rel, fun _ _ _ _ e => (by cases e), keep0⟩
    | _ => cases h
/-- arguments, on their way under k, k + 1, .. -/
theorem argsV_ok : ∀ (xs : List Operand) (cs : List Nat) {γ : Gh} {st st1 : St} {us : List AV} (k : Nat), Inv c γ st a w → argsV realAr st xs cs = some (us, st1) →
    ∃ γ1, Did c γ st γ1 st1 a w (· < k) ∧ us.length = xs.length ∧ (∀ t z hm lo len, fget st.fr t = .al z hm lo len → fget st1.fr t = .al z hm lo len) ∧
      ∀ j x, xs[j]? = some x → ∃ u, us[j]? = some u ∧ R γ1 w (lim (k + j)) u (a.eval x) ∧ (∀ z hm lo len, u = .al z hm lo len → ∃ t, x = .tmp t ∧ fget st1.fr t = u)
  | [], cs, γ, st, st1, us, k, hi, h => by
    simp only [argsV] at h
    cases h
    exact ⟨γ, .refl hi, rfl, fun _ _ _ _ _ e => e, fun j x e => by simp at e⟩
  | x :: xs, cs, γ, st, st1, us, k, hi, h => by
    simp only [argsV] at h
    cases hv : argV realAr st x (modeOf cs) with
    | none => rw [hv] at h; cases h
    | some r =>
      obtain ⟨y, st0⟩ := r
      rw [hv] at h
      simp only at h
      cases hs : argsV realAr st0 xs cs.tail with
      | none => rw [hs] at h; cases h
      | some r =>
        obtain ⟨zs, st2⟩ := r
        rw [hs] at h
        cases h
        obtain ⟨γ0, d0, r0, n1, n2⟩ := argV_ok k hi hv
        obtain ⟨γ1, d1, hl, m1, h1⟩ := argsV_ok xs cs.tail (k + 1) d0.inv hs
        refine ⟨γ1, (d0.weaken (fun m hm => by omega)).trans (d1.weaken (fun m hm => by omega)), by simp [hl], fun t z hm lo len e => m1 t z hm lo len (n2 t z hm lo len e), ?_⟩
        intro j x' e
        cases j with
        | zero =>
          simp at e
          subst e
          refine ⟨y, by simp, d1.lim k (by omega) [] _ _ r0, fun z hm lo len e => ?_⟩
          obtain ⟨t, q1, q2⟩ := n1 z hm lo len e
          refine ⟨t, q1, ?_⟩
          rw [e] at q2 ⊢
          exact m1 t z hm lo len q2
        | succ j =>
          simp at e
          obtain ⟨y', e1, e2, e3⟩ := h1 j x' e
          exact ⟨y', by simpa using e1, by rwa [show k + (j + 1) = k + 1 + j by omega], e3⟩
end
end Go.Va
set_option linter.unusedVariables false
namespace Go.Va
/-- what a function is given: its arguments, and the objects -/
structure Given (c : Cx) (γ : Gh) (w : World) (as : List AV) (O : Seg) (us : List Value) : Prop where
  wd : Wd c γ w
  hp : Hp γ { n := 0, k := O.length, fr := [], O := O } w
  len : as.length = us.length
  arg : ∀ (j : Nat) (y : AV) (u : Value), as[j]? = some y → us[j]? = some u → R γ w ⟨.slot j, []⟩ y u
  no : ∀ (j : Nat) (y : AV), as[j]? = some y → y.isAl = false
section
variable {c : Cx} {γ : Gh} {st : St} {a : Act} {w : World} {o : Oper} {env : Env} {i : Nat}
theorem heap_some (hw : Wd c γ w) {b : Nat} (h : γ.cls b ≠ .other) : ∃ o, w.heap[b]? = some o ∧ roAt w b = .ro o := by
  have hb := cls_lt hw h
  refine ⟨w.heap[b], by simp [hb], ?_⟩
  unfold roAt
  rw [show w.heap[b]? = some w.heap[b] by simp [hb]]
theorem roAt_cases (w : World) (b : Nat) : (∃ o, roAt w b = .ro o ∧ w.heap[b]? = some o) ∨ roAt w b = .other := by
  unfold roAt
  cases h : w.heap[b]? with
  | none => exact .inr rfl
  | some o => exact .inl ⟨o, rfl, rfl⟩
theorem ent_wd {m : List Nat} (hw : Wd c γ w) : Wd c (γ.ent w m) w := by
  refine ⟨fun b o e => ?_, fun b hb => ?_, fun b hb => ?_, hw.size, hw.os, hw.tape, hw.out⟩
  · simp only [Gh.ent] at e
    have ra : ∀ {o}, roAt w b = .imm o ∨ roAt w b = .ro o → w.heap[b]? = some o := by
      intro o e
      rcases roAt_cases w b with ⟨o', h1, h2⟩ | h1 <;> rw [h1] at e
      · rcases e with e | e
        · cases e
        · cases e; exact h2
      · rcases e with e | e <;> cases e
    cases hc : γ.cls b with
    | imm o' => rw [hc] at e; exact hw.still b o (.inl (by rw [hc]; simpa [entC] using e))
    | ro o' => rw [hc] at e; exact hw.still b o (.inr (by rw [hc]; simpa [entC] using e))
    | other => rw [hc] at e; simp [entC] at e
    | obj i =>
      rw [hc] at e
      simp only [entC] at e
      split at e
      · rcases e with e | e <;> cases e
      · exact ra e
    | own l =>
      rw [hc] at e
      obtain ⟨base, p⟩ := l
      cases base with
      | slot t => simp only [entC] at e; exact ra e
      | limbo k => simp only [entC] at e; rcases e with e | e <;> cases e
      | cell i off =>
        simp only [entC] at e
        split at e
        · rcases e with e | e <;> cases e
        · exact ra e
  · obtain ⟨o, e1, e2⟩ := hw.low b hb
    exact ⟨o, e1, by simp only [Gh.ent, e2, entC]⟩
  · simp only [Gh.ent, hw.new b hb, entC]
theorem ent_keeps {m : List Nat} {l l' : Loc} (h : ∀ b q, γ.cls b = .own ⟨l.base, l.path ++ q⟩ → (γ.ent w m).cls b = .own ⟨l'.base, l'.path ++ q⟩) : KeepsR γ (γ.ent w m) w w l l' (fun i => posN i m) where
  imm b o e := by simp only [Gh.ent, e, entC]
  ro b o e := by simp only [Gh.ent, e, entC]
  own b q e := ⟨h b q e, rfl⟩
  ob i j b e1 e2 := by
    have := posN_some e1
    simp only [Gh.ent, lget_eq, this, Option.bind_some]
    exact e2
theorem ent_lim {m : List Nat} {k : Nat} : ∀ b q, γ.cls b = .own ⟨(lim k).base, (lim k).path ++ q⟩ → (γ.ent w m).cls b = .own ⟨(⟨.slot k, []⟩ : Loc).base, (⟨.slot k, []⟩ : Loc).path ++ q⟩ := by
  intro b q e
  simp only [Gh.ent, e, entC]
theorem ent_cell {m : List Nat} {i j off : Nat} (h : posN i m = some j) : ∀ b q, γ.cls b = .own ⟨(⟨.cell i off, []⟩ : Loc).base, (⟨.cell i off, []⟩ : Loc).path ++ q⟩ → (γ.ent w m).cls b = .own ⟨(⟨.cell j off, []⟩ : Loc).base, (⟨.cell j off, []⟩ : Loc).path ++ q⟩ := by
  intro b q e
  simp only [Gh.ent, e, entC, h]
theorem ent_hp {m : List Nat} {O : Seg} (hp : Hp γ st w) (hm : m.Nodup) (hO : renObjs m st.O m = some O) : Hp (γ.ent w m) { n := 0, k := O.length, fr := [], O := O } w := by
  obtain ⟨hl, hg⟩ := renObjs_get m hO
  refine ⟨fun j p e => ?_, fun j h => ?_, fun j b e => ?_, Nat.le_refl _⟩
  · simp only [objAt, lget_eq] at e
    obtain ⟨i, o, e1, e2, e3⟩ := hg j p e
    have hpos := posN_get hm e1
    obtain ⟨b, cs, el, h1, h2, h3, h4, hbe, h5⟩ := hp.obj i o (by simp only [objAt, lget_eq]; exact e2)
    refine ⟨b, cs, el, by simp only [Gh.ent, lget_eq, e1, Option.bind_some]; exact h1, by simp only [Gh.ent, h2, entC, hpos], h3, by rw [h4]; exact renL_len o e3, by rw [← renL_len o e3]; exact hbe, fun q x hx => ?_⟩
    obtain ⟨x0, k1, k2⟩ := renL_get o e3 q x hx
    obtain ⟨v, v1, v2, v3⟩ := h5 q x0 k1
    exact ⟨v, v1, v2, R_ren x0 v k2 (ent_keeps (ent_cell hpos)) v3⟩
  · simp only [Gh.ent, lget_eq]
    rw [List.getElem?_eq_none (by rw [← hl]; exact h)]
    rfl
  · simp only [Gh.ent, lget_eq] at e
    cases e1 : m[j]? with
    | none => rw [e1] at e; cases e
    | some i =>
      rw [e1] at e
      simp only [Option.bind_some] at e
      simp only [Gh.ent, hp.back i b e, entC, posN_get hm e1]
theorem apartN_t {m : List Nat} : ∀ {l : List Nat}, apartN m l = true → ∀ i ∈ l, posN i m = none
  | [], _, i, hi => by cases hi
  | k :: l, h, i, hi => by
    simp only [apartN, Bool.and_eq_true, Bool.not_eq_true'] at h
    rcases List.mem_cons.1 hi with rfl | hi
    · cases hp : posN i m with
      | none => rfl
      | some j =>
        have := hasN_t.2 (List.mem_of_getElem? (posN_some hp))
        rw [h.1] at this; cases this
    · exact apartN_t h.2 i hi
theorem lentOf_mem {us : List AV} {j z i off lo len : Nat} (h : us[j]? = some (.al z (.cell i off) lo len)) : i ∈ lentOf us := by
  induction us generalizing j with
  | nil => simp at h
  | cons x us ih =>
    cases j with
    | zero =>
      simp at h; subst h
      simp [lentOf]
    | succ j =>
      have := ih (j := j) (by simpa using h)
      unfold lentOf
      split
      · rename_i h0; cases h0
      · rename_i h0; cases h0; exact List.mem_cons_of_mem _ this
      · rename_i h0; cases h0; exact this
theorem lendL_get {A : Ar} : ∀ {us vs : List AV}, lendL A st us = some vs → vs.length = us.length ∧ ∀ (j : Nat) (v : AV), vs[j]? = some v → ∃ u, us[j]? = some u ∧ lendV A st u = some v
  | [], vs, h => by simp only [lendL] at h; cases h; exact ⟨rfl, fun j v e => by simp at e⟩
  | x :: us, vs, h => by
    simp only [lendL] at h
    cases hx : lendV A st x with
    | none => rw [hx] at h; cases h
    | some y =>
      cases hu : lendL A st us with
      | none => rw [hx, hu] at h; cases h
      | some zs =>
        rw [hx, hu] at h; cases h
        obtain ⟨h1, h2⟩ := lendL_get hu
        refine ⟨by simp [h1], fun j v e => ?_⟩
        cases j with
        | zero => simp at e; subst e; exact ⟨x, by simp, hx⟩
        | succ j =>
          obtain ⟨u, k1, k2⟩ := h2 j v (by simpa using e)
          exact ⟨u, by simpa using k1, k2⟩
/-- what is lent from a home that isn't handed over -/
theorem lend_ok {m : List Nat} (hi : Inv c γ st a w) {t z lo len : Nat} {h : Home} {y : AV} (ht : fget st.fr t = .al z h lo len) (hy : lendV realAr st (.al z h lo len) = some y) (hm : ∀ i off, h = .cell i off → posN i m = none) :
    V (γ.ent w m).cls y (a.tmps.getD t undef) ∧ ∃ xs p, y = .sl z xs p ∧ p ≠ .full := by
  obtain ⟨_, al⟩ := hi.fm.al t z h lo len ht
  have himm : ∀ b o, γ.cls b = .imm o → (γ.ent w m).cls b = .imm o := fun b o e => by simp only [Gh.ent, e, entC]
  unfold lendV at hy
  split at hy
  · rename_i h0
    cases h0
    split at hy
    · rename_i z2 xs hg
      cases hk : realAr.nle (lo + len) xs.length with
      | false => rw [hk] at hy; cases hy
      | true =>
        rw [hk] at hy; cases hy
        obtain ⟨u, hu, hR⟩ := home_rel (h := h) hi (by rw [hg]; simp)
        rw [hg] at hR
        obtain ⟨e0, e1, ha, cap, a', e2, e3, e4, e5⟩ := al.2 _ _ _ hg u hu
        subst e0
        simp only [R] at hR
        refine ⟨?_, _, _, rfl, by simp⟩
        exact imm_cut (V_frame himm (fun b o e => by simp only [Gh.ent, e, entC]) _ _ hR) e1 e2 e3 e5
    · rename_i z2 xs p hp hg
      cases hk : realAr.nle (lo + len) xs.length with
      | false => rw [hk] at hy; cases hy
      | true =>
        rw [hk] at hy; cases hy
        obtain ⟨u, hu, hR⟩ := home_rel (h := h) hi (by rw [hg]; simp)
        rw [hg] at hR
        obtain ⟨e0, e1, ha, cap, a', e2, e3, e4, e5⟩ := al.2 _ _ _ hg u hu
        subst e0
        refine ⟨?_, _, _, rfl, by simp⟩
        refine ro_cut (xs := xs) (u := u) ?_ e1 e2 e3 e5
        simp only [V]
        cases p with
        | imm => exact (hp rfl).elim
        | ro =>
          simp only [R, V] at hR
          obtain ⟨ad, cp, q1, q2, q3⟩ := hR
          refine ⟨ad, cp, q1, q2, q3.imp id ?_⟩
          rintro ⟨b, off, ob, r1, r2, r3⟩
          exact ⟨b, off, ob, r1, by simp only [Gh.ent, r2, entC], Dn_frame himm _ _ _ _ r3⟩
        | full =>
          simp only [R] at hR
          rcases hR with ⟨rfl, rfl⟩ | ⟨b, cp, cs, el, q1, q2, q3, q4, q5, q6⟩
          · exact ⟨none, 0, rfl, Nat.le_refl _, .inl rfl⟩
          · refine ⟨_, cp, q1, q5, .inr ⟨b, 0, .cells cs el (0, 0), rfl, ?_, Dn_frame himm _ _ _ _ q6⟩⟩
            have hro : roAt w b = .ro (.cells cs el (0, 0)) := by unfold roAt; rw [q3]
            cases h with
            | slot s => simp only [homeLoc] at q2; simp only [Gh.ent, q2, entC]; exact hro
            | cell i off => simp only [homeLoc] at q2; simp only [Gh.ent, q2, entC, hm i off rfl]; exact hro
    · cases hy
  · rename_i h0
    exact (h0 _ _ _ _ rfl).elim
end
end Go.Va
