/- The verified abstract interpreter, a part of it: no statement of its own. -/
import Derived.Test.YtmklimlepgiffabVa7
import Derived.Orders
set_option linter.unusedVariables false
set_option linter.unusedSimpArgs false
set_option linter.unusedVariables false
namespace Go.Va
theorem hasN_mem {t : Nat} : ∀ {l : List Nat}, hasN t l = false → ∀ u ∈ l, u ≠ t
  | [], _, u, hu => by cases hu
  | x :: l, h, u, hu => by
    simp only [hasN, Bool.or_eq_false_iff] at h
    rcases List.mem_cons.1 hu with rfl | hu
    · rintro rfl; rw [Nat.beq_refl] at h; exact absurd h.1 (by simp)
    · exact hasN_mem h.2 u hu
theorem allLt_mem {b : Nat} : ∀ {l : List Nat}, allLt b l = true → ∀ i ∈ l, i < b
  | [], _, i, hi => by cases hi
  | x :: l, h, i, hi => by
    simp only [allLt, Bool.and_eq_true] at h
    rcases List.mem_cons.1 hi with rfl | hi
    · exact by simpa using h.1
    · exact allLt_mem h.2 i hi
theorem allLt1_mem {b : Nat} : ∀ {l : List (Nat × Nat)}, allLt1 b l = true → ∀ p ∈ l, p.1 < b
  | [], _, i, hi => by cases hi
  | (x, y) :: l, h, i, hi => by
    simp only [allLt1, Bool.and_eq_true] at h
    rcases List.mem_cons.1 hi with rfl | hi
    · exact by simpa using h.1
    · exact allLt1_mem h.2 i hi
theorem hasP_mem {i j : Nat} : ∀ {l : List (Nat × Nat)}, hasP i j l = false → ∀ p ∈ l, ¬ (i = p.1 ∧ j = p.2)
  | [], _, p, hp => by cases hp
  | (x, y) :: l, h, p, hp => by
    simp only [hasP, Bool.or_eq_false_iff] at h
    rcases List.mem_cons.1 hp with rfl | hp
    · rintro ⟨rfl, rfl⟩; simp [Nat.beq_refl] at h
    · exact hasP_mem h.2 p hp
theorem hasP1_mem {i : Nat} : ∀ {l : List (Nat × Nat)}, hasP1 i l = false → ∀ p ∈ l, i ≠ p.1
  | [], _, p, hp => by cases hp
  | (x, y) :: l, h, p, hp => by
    simp only [hasP1, Bool.or_eq_false_iff] at h
    rcases List.mem_cons.1 hp with rfl | hp
    · rintro rfl; simp [Nat.beq_refl] at h
    · exact hasP1_mem h.2 p hp
theorem noHit_mem {K : Kil} : ∀ {l : List AV}, noHit K l = true → ∀ v ∈ l, v.isUnk = false ∧ v.hit K = false
  | [], _, v, hv => by cases hv
  | x :: l, h, v, hv => by
    simp only [noHit, Bool.and_eq_true, Bool.not_eq_true'] at h
    rcases List.mem_cons.1 hv with rfl | hv
    · exact h.1
    · exact noHit_mem h.2 v hv
theorem app_len (e : Eff) (st : St) : st.O.length ≤ (e.app st).O.length := by
  cases e with
  | wrC i j v => simp only [Eff.app, wrC_len]; exact Nat.le_refl _
  | _ => simp [Eff.app, setObj, lset_eq]
theorem apps_len : ∀ (l : List Eff) (st : St), st.O.length ≤ (apps l st).O.length
  | [], st => Nat.le_refl _
  | e :: l, st => Nat.le_trans (app_len e st) (apps_len l _)
theorem Agr.trans {T : Trc} {a b c : St} (h : Agr T a b) (k : Agr T b c) : Agr T a c :=
  ⟨k.n.trans h.n, fun t ht => (k.rs t ht).trans (h.rs t ht), fun t ht => (k.rw t ht).trans (h.rw t ht), fun i hi => (k.ro i hi).trans (h.ro i hi), fun p hp => (k.rc p hp).trans (h.rc p hp), fun q => (k.len q).trans (h.len q)⟩
theorem Agr.symm {T : Trc} {a b : St} (h : Agr T a b) : Agr T b a :=
  ⟨h.n.symm, fun t ht => (h.rs t ht).symm, fun t ht => (h.rw t ht).symm, fun i hi => (h.ro i hi).symm, fun p hp => (h.rc p hp).symm, fun q => (h.len q).symm⟩
theorem Agr.item {T : Trc} {a b : St} (h : Agr T a b) : itemOf T b = itemOf T a := by
  simp only [itemOf, Item.mk.injEq, true_and]
  exact List.map_congr_left fun t ht => h.rs t ht
/-- ahead of it -/
theorem spare_one {T : Trc} {e : Eff} {st s : St} {b0 : Nat} (hb : b0 ≤ st.O.length) (hs : s = st ∨ s = e.app st) (h : e.spares b0 (itemOf T s) = true) : Agr T st (e.app st) := by
  cases e with
  | wrS t v =>
    simp only [Eff.spares, Bool.and_eq_true, Bool.not_eq_true'] at h
    refine ⟨rfl, fun u hu => ?_, fun u hu => ?_, fun _ _ => rfl, fun _ _ => rfl, fun _ => rfl⟩
    · simp only [Eff.app, fget_cons]; rw [if_neg (Ne.symm (hasN_mem h.1 u hu))]
    · simp only [Eff.app, fget_cons]; rw [if_neg (Ne.symm (hasN_mem h.2 u hu))]
  | wrO i o =>
    simp only [Eff.spares, Bool.and_eq_true, Bool.not_eq_true'] at h
    refine ⟨rfl, fun _ _ => rfl, fun _ _ => rfl, fun j hj => ?_, fun p hp => ?_, fun _ => by simp [Eff.app, setObj, lset_eq]⟩
    · simp only [Eff.app, set_obj]
      rw [if_neg (Ne.symm (hasN_mem h.1 j hj))]
    · simp only [Eff.app, cellAt, set_obj]
      rw [if_neg (hasP1_mem h.2 p hp)]
  | wrC i j v =>
    simp only [Eff.spares, Bool.and_eq_true, Bool.not_eq_true'] at h
    refine ⟨by simp only [Eff.app, (wrC_fr _ _ _ _).2.1], fun _ _ => by simp only [Eff.app, (wrC_fr _ _ _ _).1], fun _ _ => by simp only [Eff.app, (wrC_fr _ _ _ _).1], fun k hk => ?_, fun p hp => ?_, fun _ => by simp only [Eff.app, wrC_len]⟩
    · simp only [Eff.app, wrC_obj]
      rw [if_neg (Ne.symm (hasN_mem h.1 k hk))]
    · simp only [Eff.app, wrC_cell]
      rw [if_neg (hasP_mem h.2 p hp)]
  | psh os =>
    simp only [Eff.spares, Bool.and_eq_true, Bool.not_eq_true'] at h
    have hl : T.len = false := h.1.1
    refine ⟨rfl, fun _ _ => rfl, fun _ _ => rfl, fun j hj => ?_, fun p hp => ?_, fun q => by rw [hl] at q; cases q⟩
    · have := allLt_mem h.1.2 j hj
      simp only [Eff.app, psh_obj]
      rw [if_pos (by omega)]
    · have := allLt1_mem h.2 p hp
      simp only [Eff.app, cellAt, psh_obj]
      rw [if_pos (by omega)]
  | kil K =>
    simp only [Eff.spares] at h
    refine ⟨rfl, fun u hu => ?_, fun u hu => ?_, fun _ _ => rfl, fun _ _ => rfl, fun _ => rfl⟩
    · have hm : fget s.fr u ∈ (itemOf T s).vs := List.mem_map.2 ⟨u, hu, rfl⟩
      obtain ⟨h1, h2⟩ := noHit_mem h _ hm
      simp only [Eff.app, fget_killK, hitV]
      rcases hs with rfl | rfl
      · rw [h2]; rfl
      · simp only [Eff.app, fget_killK, hitV] at h1
        cases hk : (fget st.fr u).hit K with
        | false => rfl
        | true => rw [hk] at h1; cases h1
    · simp only [Eff.app, fget_killK, hitV_owner]
theorem spare_back {T : Trc} {b0 : Nat} : ∀ (l : List Eff) (st : St), b0 ≤ st.O.length → spareAll b0 (itemOf T st) l = true → Agr T st (apps l st)
  | [], st, hb, h => .refl _ _
  | e :: l, st, hb, h => by
    simp only [spareAll, Bool.and_eq_true] at h
    have h1 := spare_one hb (.inl rfl) h.1
    exact h1.trans (spare_back l (e.app st) (Nat.le_trans hb (app_len e st)) (by rw [h1.item]; exact h.2))
theorem spare_fwd {T : Trc} {b0 : Nat} : ∀ (l : List Eff) (st : St), b0 ≤ st.O.length → spareAll b0 (itemOf T (apps l st)) l = true → Agr T st (apps l st)
  | [], st, hb, h => .refl _ _
  | e :: l, st, hb, h => by
    simp only [spareAll, Bool.and_eq_true, apps] at h
    have h2 := spare_fwd l (e.app st) (Nat.le_trans hb (app_len e st)) h.2
    have h1 := spare_one (T := T) (s := e.app st) hb (.inr rfl) (by rw [← h2.item]; exact h.1)
    exact h1.trans h2
section
variable {E : Task → Option Res}
theorem run_item {m : M} {st st' st1 : St} {T : Trc} (h : run E m st = some (st1, T)) (a : Agr T st st') : run E m st' = some (apps T.eff st', T) ∧ itemOf T st' = itemOf T st := ⟨run_agr m h st' a, a.item⟩
/-- Two texts, one behind the other, whose traces are apart. -/
theorem swap {m1 m2 : M} {st s1 s2 : St} {T1 T2 : Trc} {b0 : Nat} (hb : b0 ≤ st.O.length) (h1 : run E m1 st = some (s1, T1)) (h2 : run E m2 s1 = some (s2, T2)) (h : apart b0 (itemOf T1 st) (itemOf T2 s1) = true) :
    ∃ t1 t2, run E m2 st = some (t1, T2) ∧ itemOf T2 st = itemOf T2 s1 ∧ run E m1 t1 = some (t2, T1) ∧ itemOf T1 t1 = itemOf T1 st ∧ Alike s2 t2 := by
  simp only [apart, Bool.and_eq_true] at h
  obtain ⟨⟨f1, f2⟩, f3⟩ := h
  have e1 := run_apps h1
  subst e1
  have e2 := run_apps h2
  subst e2
  have a2 : Agr T2 st (apps T1.eff st) := spare_fwd _ _ hb f2
  obtain ⟨r2, i2⟩ := run_item h2 a2.symm
  have a1 : Agr T1 st (apps T2.eff st) := spare_back _ _ hb f3
  obtain ⟨r1, i1⟩ := run_item h1 a1
  refine ⟨_, _, r2, i2, r1, i1, ?_⟩
  exact (apps_comm T1.eff T2.eff f1 st).symm
inductive Runs (E : Task → Option Res) : List M → St → List Item → St → Prop
  | nil (st : St) : Runs E [] st [] st
  | cons {m : M} {st st1 st2 : St} {T : Trc} {ms : List M} {its : List Item} (h : run E m st = some (st1, T)) (t : Runs E ms st1 its st2) : Runs E (m :: ms) st (itemOf T st :: its) st2
theorem Runs.alike {ms : List M} {st s2 : St} {its : List Item} (h : Runs E ms st its s2) : ∀ {st'}, Alike st st' → ∃ s2', Runs E ms st' its s2' ∧ Alike s2 s2' := by
  induction h with
  | nil st => intro st' a; exact ⟨st', .nil _, a⟩
  | cons h t ih =>
    rename_i m st st1 st2 T ms its
    intro st' a
    have ag := a.agr T
    obtain ⟨r, i⟩ := run_item h ag
    have e := run_apps h
    subst e
    obtain ⟨s2', k1, k2⟩ := ih (a.apps T.eff)
    exact ⟨s2', by rw [← i]; exact .cons r k1, k2⟩
theorem Runs.len {ms : List M} {st s2 : St} {its : List Item} (h : Runs E ms st its s2) : ms.length = its.length := by
  induction h with
  | nil => rfl
  | cons _ _ ih => simp [ih]
/-- One that is apart from all that stand ahead of it comes first. -/
theorem Runs.move {b0 : Nat} {x : M} {post : List M} : ∀ (pre : List M) {st s2 : St} {ip iq : List Item} {ix : Item}, b0 ≤ st.O.length → Runs E (pre ++ x :: post) st (ip ++ ix :: iq) s2 → ip.length = pre.length → (∀ p ∈ ip, apart b0 p ix = true) →
    ∃ s2', Runs E (x :: (pre ++ post)) st (ix :: (ip ++ iq)) s2' ∧ Alike s2 s2'
  | [], st, s2, ip, iq, ix, hb, h, hl, ha => by
    have : ip = [] := List.eq_nil_of_length_eq_zero hl
    subst this
    exact ⟨s2, h, .refl _⟩
  | p :: pre, st, s2, [], iq, ix, hb, h, hl, ha => by simp at hl
  | p :: pre, st, s2, i :: ip, iq, ix, hb, h, hl, ha => by
    simp only [List.cons_append] at h
    generalize hg : i :: (ip ++ ix :: iq) = L at h
    cases h with
    | cons h t =>
      rename_i st1 T its
      simp only [List.cons.injEq] at hg
      obtain ⟨rfl, rfl⟩ := hg
      have e := run_apps h
      have hb1 : b0 ≤ st1.O.length := by rw [e]; exact Nat.le_trans hb (apps_len _ _)
      obtain ⟨s3, k1, k2⟩ := Runs.move pre hb1 t (by simpa using hl) (fun q hq => ha q (by simp [hq]))
      generalize hg : ix :: (ip ++ iq) = L at k1
      cases k1 with
      | cons h' t' =>
        rename_i st2 T' its
        simp only [List.cons.injEq] at hg
        obtain ⟨rfl, rfl⟩ := hg
        obtain ⟨t1, t2, r2, i2, r1, i1, al⟩ := swap hb h h' (ha _ (by simp))
        obtain ⟨s4, l1, l2⟩ := t'.alike al
        refine ⟨s4, ?_, k2.trans l2⟩
        rw [← i2, List.cons_append, ← i1]
        exact .cons r2 (.cons r1 l1)
end
/-! ### The order of a region's operations -/
/-- there is a way from one operation to another one along what must stand ahead -/
inductive Leads (ops : Array Oper) : Nat → Nat → Prop
  | edge {j : Nat} {o : Oper} {e : Edge} (h : ops[j]? = some o) (he : e ∈ o.after) (hb : Region.binds .any e = true) : Leads ops e.on j
  | step {j p : Nat} {o : Oper} {e : Edge} (h : ops[j]? = some o) (he : e ∈ o.after) (hb : Region.binds .any e = true) (r : Leads ops p e.on) : Leads ops p j
theorem mask_reach {ops : Array Oper} {masks : List Nat} (hm : ∀ (i m : Nat), masks[i]? = some m → ∀ p, m.testBit p = true → Leads ops p i) {j : Nat} {o : Oper} (ho : ops[j]? = some o) :
    ∀ (l : List Edge), (∀ e ∈ l, e ∈ o.after) → ∀ p, (maskOf masks l).testBit p = true → Leads ops p j
  | [], _, p, h => by simp [maskOf] at h
  | e :: l, hl, p, h => by
    simp only [maskOf] at h
    cases hb : Region.binds .any e with
    | false => rw [hb] at h; exact mask_reach hm ho l (fun x hx => hl x (by simp [hx])) p h
    | true =>
      rw [hb] at h
      simp only [cond_true, Nat.testBit_or, Bool.or_eq_true] at h
      rcases h with (h | h) | h
      · exact mask_reach hm ho l (fun x hx => hl x (by simp [hx])) p h
      · have : p = e.on := by
          rw [Nat.one_shiftLeft, Nat.testBit_two_pow] at h
          exact (by simpa using h : e.on = p).symm
        subst this
        exact .edge ho (hl e (by simp)) hb
      · cases hg : lget masks e.on with
        | none => rw [hg] at h; simp at h
        | some m =>
          rw [hg] at h
          rw [lget_eq] at hg
          exact .step ho (hl e (by simp)) hb (hm e.on m hg p h)
theorem edgesLt_mem {j : Nat} : ∀ {l : List Edge}, edgesLt j l = true → ∀ e ∈ l, Region.binds .any e = true → e.on < j
  | [], _, e, he, _ => by cases he
  | x :: l, h, e, he, hb => by
    simp only [edgesLt, Bool.and_eq_true, Bool.or_eq_true, Bool.not_eq_true'] at h
    rcases List.mem_cons.1 he with rfl | he
    · rcases h.1 with k | k
      · rw [k] at hb; cases hb
      · simpa using k
    · exact edgesLt_mem h.2 e he hb
theorem chk_get {b0 mask : Nat} : ∀ {l : List Item} {n : Nat} {b : Item}, chk b0 mask n l b = true → ∀ (i : Nat) (a : Item), l[i]? = some a → mask.testBit (n + i) = true ∨ apart b0 a b = true
  | [], n, b, _, i, a, h => by simp at h
  | x :: l, n, b, h, i, a, hi => by
    simp only [chk, Bool.and_eq_true, Bool.or_eq_true] at h
    cases i with
    | zero => simp at hi; subst hi; simpa using h.1
    | succ i =>
      have := chk_get h.2 i a (by simpa using hi)
      rw [show n + (i + 1) = n + 1 + i by omega]
      exact this
end Go.Va
