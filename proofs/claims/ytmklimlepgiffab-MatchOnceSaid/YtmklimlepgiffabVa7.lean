/- The verified abstract interpreter, a part of it: no statement of its own. -/
import Derived.Test.YtmklimlepgiffabVa6
set_option linter.unusedVariables false
set_option linter.unusedSimpArgs false
set_option linter.unusedVariables false
namespace Go.Va
def apps : List Eff → St → St
  | [], st => st
  | e :: l, st => apps l (e.app st)
structure Agr (T : Trc) (st st' : St) : Prop where
  n : st'.n = st.n
  rs : ∀ t ∈ T.rs, fget st'.fr t = fget st.fr t
  rw : ∀ t ∈ T.rw, (fget st'.fr t).owner = (fget st.fr t).owner
  ro : ∀ i ∈ T.ro, objAt st' i = objAt st i
  rc : ∀ p ∈ T.rc, cellAt st' p.1 p.2 = cellAt st p.1 p.2
  len : T.len = true → st'.O.length = st.O.length
theorem hit_unk (K : Kil) : AV.unk.hit K = false := by cases K <;> rfl
theorem hitV_owner (K : Kil) (v : AV) : (hitV K v).owner = v.owner := by
  unfold hitV
  cases h : v.hit K with
  | false => rfl
  | true =>
    cases v <;> first | rfl | (cases K <;> cases h)
theorem fget_killK (K : Kil) : ∀ (fr : Fr) (t : Nat), fget (killK K fr) t = hitV K (fget fr t)
  | [], t => by simp only [killK, fget, hitV, hit_unk, cond_false]
  | (u, v) :: fr, t => by
    simp only [killK, fget]
    cases Nat.beq u t with
    | true => rfl
    | false => exact fget_killK K fr t
theorem wrC_obj (st : St) (i j : Nat) (v : AV) (i' : Nat) : objAt (homePut st (.cell i j) v) i' = if i = i' then (objAt st i').map (lset · j v) else objAt st i' := by
  simp only [homePut]
  by_cases e : i = i'
  · subst e
    rw [if_pos rfl]
    cases ho : objAt st i with
    | none => simp only [ho, Option.map_none]
    | some o => simp only [Option.map_some]; exact setObj_at ho
  · rw [if_neg e]
    cases ho : objAt st i with
    | none => rfl
    | some o => simp only [objAt, setObj, lget_eq, lset_eq]; rw [List.getElem?_set, if_neg e]
theorem wrC_cell (st : St) (i j : Nat) (v : AV) (i' j' : Nat) : cellAt (homePut st (.cell i j) v) i' j' = if i = i' ∧ j = j' then (cellAt st i' j').map (fun _ => v) else cellAt st i' j' := by
  simp only [cellAt, wrC_obj]
  by_cases e : i = i'
  · subst e
    rw [if_pos rfl]
    cases ho : objAt st i with
    | none => simp
    | some o =>
      simp only [Option.map_some, lget_eq, lset_eq, List.getElem?_set]
      by_cases e2 : j = j'
      · subst e2
        simp only [if_true, and_self]
        by_cases k : j < o.length
        · rw [if_pos k, List.getElem?_eq_getElem k]; rfl
        · rw [if_neg k, List.getElem?_eq_none (by omega)]; rfl
      · rw [if_neg e2, if_neg (fun h => e2 h.2)]
  · rw [if_neg e, if_neg (fun h => e h.1)]
theorem wrC_len (st : St) (i j : Nat) (v : AV) : (homePut st (.cell i j) v).O.length = st.O.length := by
  simp only [homePut]
  cases objAt st i with
  | none => rfl
  | some o => simp only [setObj, lset_eq, List.length_set]
theorem wrC_fr (st : St) (i j : Nat) (v : AV) : (homePut st (.cell i j) v).fr = st.fr ∧ (homePut st (.cell i j) v).n = st.n ∧ (homePut st (.cell i j) v).k = st.k := by
  simp only [homePut]
  cases objAt st i <;> exact ⟨rfl, rfl, rfl⟩
theorem app_n (e : Eff) (st : St) : (e.app st).n = st.n := by
  cases e with
  | wrC i j v => exact (wrC_fr ..).2.1
  | _ => rfl
theorem app_k (e : Eff) (st : St) : (e.app st).k = st.k := by
  cases e with
  | wrC i j v => exact (wrC_fr ..).2.2
  | _ => rfl
theorem set_obj (st : St) (i j : Nat) (o : Obj) : objAt (setObj st i o) j = if i = j then (objAt st j).map (fun _ => o) else objAt st j := by
  simp only [objAt, setObj, lget_eq, lset_eq, List.getElem?_set]
  by_cases e : i = j
  · subst e
    simp only [if_true]
    by_cases k : i < st.O.length
    · rw [if_pos k, List.getElem?_eq_getElem k]; rfl
    · rw [if_neg k, List.getElem?_eq_none (by omega)]; rfl
  · rw [if_neg e, if_neg e]
theorem psh_obj (st : St) (os : Seg) (j : Nat) : objAt { st with O := st.O ++ os } j = if j < st.O.length then objAt st j else os[j - st.O.length]? := by
  simp only [objAt, lget_eq, List.getElem?_append]
theorem app_agr {T : Trc} {st st' : St} (e : Eff) (h : Agr T st st') (hl : ∀ os, e = .psh os → T.len = true) (ho : ∀ i o, e = .wrO i o → i ∈ T.ro) : Agr T (e.app st) (e.app st') := by
  cases e with
  | wrS t v =>
    refine ⟨h.n, fun u hu => ?_, fun u hu => ?_, h.ro, h.rc, h.len⟩
    · simp only [Eff.app, fget_cons]; split
      · rfl
      · exact h.rs u hu
    · simp only [Eff.app, fget_cons]; split
      · rfl
      · exact h.rw u hu
  | wrO i o =>
    refine ⟨h.n, h.rs, h.rw, fun j hj => ?_, fun p hp => ?_, fun q => ?_⟩
    · simp only [Eff.app, set_obj, h.ro j hj]
    · have hc := h.rc p hp
      simp only [Eff.app, cellAt, set_obj] at hc ⊢
      by_cases e : i = p.1
      · rw [if_pos e, if_pos e, ← e, h.ro i (ho i o rfl)]
      · rw [if_neg e, if_neg e]; exact hc
    · simp only [Eff.app, setObj, lset_eq, List.length_set]; exact h.len q
  | wrC i j v =>
    refine ⟨by simp only [Eff.app, (wrC_fr _ _ _ _).2.1, h.n], fun u hu => by simp only [Eff.app, (wrC_fr _ _ _ _).1, h.rs u hu], fun u hu => by simp only [Eff.app, (wrC_fr _ _ _ _).1, h.rw u hu], fun k hk => ?_, fun p hp => ?_, fun q => ?_⟩
    · simp only [Eff.app, wrC_obj, h.ro k hk]
    · simp only [Eff.app, wrC_cell, h.rc p hp]
    · simp only [Eff.app, wrC_len]; exact h.len q
  | psh os =>
    have hn := h.len (hl os rfl)
    refine ⟨h.n, h.rs, h.rw, fun j hj => ?_, fun p hp => ?_, fun q => by simp only [Eff.app, List.length_append, hn]⟩
    · simp only [Eff.app, psh_obj, hn, h.ro j hj]
    · have hc := h.rc p hp
      simp only [Eff.app, cellAt, psh_obj, hn] at hc ⊢
      by_cases e : p.1 < st.O.length
      · rw [if_pos e, if_pos e]; exact hc
      · rw [if_neg e, if_neg e]
  | kil K =>
    refine ⟨h.n, fun u hu => ?_, fun u hu => ?_, h.ro, h.rc, h.len⟩
    · simp only [Eff.app, fget_killK, h.rs u hu]
    · simp only [Eff.app, fget_killK, hitV_owner, h.rw u hu]
section
variable {E : Task → Option Res}
theorem withT_some {f : Trc → Trc} {r : Option (St × Trc)} {st : St} {T : Trc} (h : withT f r = some (st, T)) : ∃ T0, r = some (st, T0) ∧ T = f T0 := by
  cases r with
  | none => cases h
  | some p => obtain ⟨a, b⟩ := p; cases h; exact ⟨b, rfl, rfl⟩
theorem run_ev : ∀ (m : M) {st st1 : St} {T : Trc}, run E m st = some (st1, T) → ev E m st = some st1
  | .ret, st, st1, T, h => by cases h; rfl
  | .fail, st, st1, T, h => by cases h
  | .rdN k, st, st1, T, h => run_ev (k st.n) h
  | .rdS t k, st, st1, T, h => by obtain ⟨T0, h, _⟩ := withT_some h; exact run_ev (k (fget st.fr t)) h
  | .own t k, st, st1, T, h => by obtain ⟨T0, h, _⟩ := withT_some h; exact run_ev (k (fget st.fr t).owner) h
  | .rdO i k, st, st1, T, h => by obtain ⟨T0, h, _⟩ := withT_some h; exact run_ev (k (objAt st i)) h
  | .rdC i j k, st, st1, T, h => by obtain ⟨T0, h, _⟩ := withT_some h; exact run_ev (k (cellAt st i j)) h
  | .rdL k, st, st1, T, h => by obtain ⟨T0, h, _⟩ := withT_some h; exact run_ev (k st.O.length) h
  | .wrS t v m, st, st1, T, h => by obtain ⟨T0, h, _⟩ := withT_some h; exact run_ev m h
  | .wrO i o m, st, st1, T, h => by obtain ⟨T0, h, _⟩ := withT_some h; exact run_ev m h
  | .wrC i j v m, st, st1, T, h => by obtain ⟨T0, h, _⟩ := withT_some h; exact run_ev m h
  | .psh os m, st, st1, T, h => by obtain ⟨T0, h, _⟩ := withT_some h; exact run_ev m h
  | .kil K m, st, st1, T, h => by obtain ⟨T0, h, _⟩ := withT_some h; exact run_ev m h
  | .ask t k, st, st1, T, h => by
    simp only [run] at h
    simp only [ev]
    cases he : E t with
    | none => rw [he] at h; cases h
    | some r => rw [he] at h; exact run_ev (k r) h
/-- What a text does hangs on what it looks at alone. -/
theorem run_agr : ∀ (m : M) {st st1 : St} {T : Trc}, run E m st = some (st1, T) → ∀ st', Agr T st st' → run E m st' = some (apps T.eff st', T)
  | .ret, st, st1, T, h, st', a => by cases h; rfl
  | .fail, st, st1, T, h, st', a => by cases h
  | .rdN k, st, st1, T, h, st', a => by
    simp only [run] at h ⊢
    rw [a.n]
    exact run_agr (k st.n) h st' a
  | .rdS t k, st, st1, T, h, st', a => by
    obtain ⟨T0, h0, rfl⟩ := withT_some h
    simp only [run]
    rw [a.rs t (by simp), run_agr (k (fget st.fr t)) h0 st' ⟨a.n, fun u hu => a.rs u (by simp [hu]), a.rw, a.ro, a.rc, a.len⟩]
    rfl
  | .own t k, st, st1, T, h, st', a => by
    obtain ⟨T0, h0, rfl⟩ := withT_some h
    simp only [run]
    rw [a.rw t (by simp), run_agr (k (fget st.fr t).owner) h0 st' ⟨a.n, a.rs, fun u hu => a.rw u (by simp [hu]), a.ro, a.rc, a.len⟩]
    rfl
  | .rdO i k, st, st1, T, h, st', a => by
    obtain ⟨T0, h0, rfl⟩ := withT_some h
    simp only [run]
    rw [a.ro i (by simp), run_agr (k (objAt st i)) h0 st' ⟨a.n, a.rs, a.rw, fun u hu => a.ro u (by simp [hu]), a.rc, a.len⟩]
    rfl
  | .rdC i j k, st, st1, T, h, st', a => by
    obtain ⟨T0, h0, rfl⟩ := withT_some h
    simp only [run]
    rw [a.rc (i, j) (by simp), run_agr (k (cellAt st i j)) h0 st' ⟨a.n, a.rs, a.rw, a.ro, fun u hu => a.rc u (by simp [hu]), a.len⟩]
    rfl
  | .rdL k, st, st1, T, h, st', a => by
    obtain ⟨T0, h0, rfl⟩ := withT_some h
    simp only [run]
    rw [a.len rfl, run_agr (k st.O.length) h0 st' ⟨a.n, a.rs, a.rw, a.ro, a.rc, fun _ => a.len rfl⟩]
    rfl
  | .wrS t v m, st, st1, T, h, st', a => by
    obtain ⟨T0, h0, rfl⟩ := withT_some h
    simp only [run]
    rw [run_agr m h0 _ (app_agr (T := T0) (.wrS t v) ⟨a.n, a.rs, a.rw, a.ro, a.rc, a.len⟩ (by simp) (by simp))]
    rfl
  | .wrO i o m, st, st1, T, h, st', a => by
    obtain ⟨T0, h0, rfl⟩ := withT_some h
    simp only [run]
    have b := app_agr (T := { T0 with ro := i :: T0.ro, eff := [] }) (.wrO i o) ⟨a.n, a.rs, a.rw, a.ro, a.rc, a.len⟩ (by simp) (by rintro i' o' e; cases e; simp)
    rw [run_agr m h0 _ ⟨b.n, b.rs, b.rw, fun u hu => b.ro u (by simp [hu]), b.rc, b.len⟩]
    rfl
  | .wrC i j v m, st, st1, T, h, st', a => by
    obtain ⟨T0, h0, rfl⟩ := withT_some h
    simp only [run]
    rw [run_agr m h0 _ (app_agr (T := T0) (.wrC i j v) ⟨a.n, a.rs, a.rw, a.ro, a.rc, a.len⟩ (by simp) (by simp))]
    rfl
  | .psh os m, st, st1, T, h, st', a => by
    obtain ⟨T0, h0, rfl⟩ := withT_some h
    simp only [run]
    have b := app_agr (T := { T0 with len := true, eff := [] }) (.psh os) ⟨a.n, a.rs, a.rw, a.ro, a.rc, fun _ => a.len rfl⟩ (fun _ _ => rfl) (by simp)
    rw [run_agr m h0 _ ⟨b.n, b.rs, b.rw, b.ro, b.rc, fun _ => b.len rfl⟩]
    rfl
  | .kil K m, st, st1, T, h, st', a => by
    obtain ⟨T0, h0, rfl⟩ := withT_some h
    simp only [run]
    rw [run_agr m h0 _ (app_agr (T := T0) (.kil K) ⟨a.n, a.rs, a.rw, a.ro, a.rc, a.len⟩ (by simp) (by simp))]
    rfl
  | .ask t k, st, st1, T, h, st', a => by
    simp only [run] at h ⊢
    cases he : E t with
    | none => rw [he] at h; cases h
    | some r => rw [he] at h; exact run_agr (k r) h st' a
theorem Agr.refl (T : Trc) (st : St) : Agr T st st := ⟨rfl, fun _ _ => rfl, fun _ _ => rfl, fun _ _ => rfl, fun _ _ => rfl, fun _ => rfl⟩
theorem run_apps {m : M} {st st1 : St} {T : Trc} (h : run E m st = some (st1, T)) : st1 = apps T.eff st := by
  have := run_agr m h st (.refl T st)
  rw [h] at this
  cases this
  rfl
end
/-! ### States that are alike -/
structure Alike (st st' : St) : Prop where
  n : st'.n = st.n
  k : st'.k = st.k
  O : st'.O = st.O
  fr : ∀ t, fget st'.fr t = fget st.fr t
theorem Alike.refl (st : St) : Alike st st := ⟨rfl, rfl, rfl, fun _ => rfl⟩
theorem Alike.trans {a b c : St} (h : Alike a b) (k : Alike b c) : Alike a c := ⟨k.n.trans h.n, k.k.trans h.k, k.O.trans h.O, fun t => (k.fr t).trans (h.fr t)⟩
theorem Alike.symm {a b : St} (h : Alike a b) : Alike b a := ⟨h.n.symm, h.k.symm, h.O.symm, fun t => (h.fr t).symm⟩
theorem Alike.agr {a b : St} (h : Alike a b) (T : Trc) : Agr T a b := ⟨h.n, fun t _ => h.fr t, fun t _ => by rw [h.fr t], fun i _ => by simp only [objAt, h.O], fun p _ => by simp only [cellAt, objAt, h.O], fun _ => by rw [h.O]⟩
theorem Alike.app {a b : St} (h : Alike a b) (e : Eff) : Alike (e.app a) (e.app b) := by
  cases e with
  | wrS t v => exact ⟨h.n, h.k, h.O, fun u => by simp only [Eff.app, fget_cons, h.fr u]⟩
  | wrO i o => exact ⟨h.n, h.k, by simp only [Eff.app, setObj, h.O], h.fr⟩
  | wrC i j v =>
    have ho : objAt b i = objAt a i := by simp only [objAt, h.O]
    simp only [Eff.app, homePut, ho]
    cases objAt a i with
    | none => exact h
    | some o => exact ⟨h.n, h.k, by simp only [setObj, h.O], h.fr⟩
  | psh os => exact ⟨h.n, h.k, by simp only [Eff.app, h.O], h.fr⟩
  | kil K => exact ⟨h.n, h.k, h.O, fun u => by simp only [Eff.app, fget_killK, h.fr u]⟩
theorem Alike.apps {a b : St} (h : Alike a b) : ∀ l, Alike (Va.apps l a) (Va.apps l b)
  | [] => h
  | e :: l => Alike.apps (h.app e) l
/-! ### Effects that may change places -/
theorem wrC_O (st : St) (i j : Nat) (v : AV) : (homePut st (.cell i j) v).O = (match st.O[i]? with | some o => st.O.set i (o.set j v) | none => st.O) := by
  simp only [homePut, objAt, lget_eq]
  cases st.O[i]? with
  | none => rfl
  | some o => simp only [setObj, lset_eq]
theorem app_comm {e f : Eff} (h : e.free f = true) (st : St) : Alike (e.app (f.app st)) (f.app (e.app st)) := by
  cases e with
  | wrS t v =>
    cases f with
    | wrS u x =>
      have hne : t ≠ u := by rintro rfl; simp [Eff.free, Nat.beq_refl] at h
      refine ⟨rfl, rfl, rfl, fun y => ?_⟩
      simp only [Eff.app, fget_cons]
      by_cases h1 : t = y
      · subst h1; rw [if_pos rfl, if_neg (Ne.symm hne), if_pos rfl]
      · by_cases h2 : u = y
        · subst h2; simp [h1]
        · simp [h1, h2]
    | kil K =>
      refine ⟨rfl, rfl, rfl, fun y => ?_⟩
      simp only [Eff.app, fget_cons, fget_killK]
      split
      · simp only [Eff.free, Bool.not_eq_true'] at h; simp only [hitV, h, cond_false]
      · rfl
    | wrO i o => exact ⟨rfl, rfl, rfl, fun _ => rfl⟩
    | wrC i j x => simp only [Eff.app, homePut, objAt]; cases lget st.O i <;> exact ⟨rfl, rfl, rfl, fun _ => rfl⟩
    | psh os => exact ⟨rfl, rfl, rfl, fun _ => rfl⟩
  | kil K =>
    cases f with
    | wrS u x =>
      refine ⟨rfl, rfl, rfl, fun y => ?_⟩
      simp only [Eff.app, fget_cons, fget_killK]
      split
      · simp only [Eff.free, Bool.not_eq_true'] at h; simp only [hitV, h, cond_false]
      · rfl
    | kil K' =>
      refine ⟨rfl, rfl, rfl, fun y => ?_⟩
      simp only [Eff.app, fget_killK]
      generalize fget st.fr y = v
      unfold hitV
      cases h1 : v.hit K <;> cases h2 : v.hit K' <;> simp [hit_unk, h1, h2]
    | wrO i o => exact ⟨rfl, rfl, rfl, fun _ => rfl⟩
    | wrC i j x => simp only [Eff.app, homePut, objAt]; cases lget st.O i <;> exact ⟨rfl, rfl, rfl, fun _ => rfl⟩
    | psh os => exact ⟨rfl, rfl, rfl, fun _ => rfl⟩
  | wrO i o =>
    cases f with
    | wrO j p =>
      have hne : i ≠ j := by rintro rfl; simp [Eff.free, Nat.beq_refl] at h
      refine ⟨rfl, rfl, ?_, fun _ => rfl⟩
      simp only [Eff.app, setObj, lset_eq]
      rw [List.set_comm _ _ hne]
    | wrC i' j x =>
      have hne : i ≠ i' := by rintro rfl; simp [Eff.free, Nat.beq_refl] at h
      refine ⟨by simp only [Eff.app, (wrC_fr _ _ _ _).2.1, setObj], by simp only [Eff.app, (wrC_fr _ _ _ _).2.2, setObj], ?_, fun y => by simp only [Eff.app, (wrC_fr _ _ _ _).1, setObj]⟩
      simp only [Eff.app, wrC_O, setObj, lset_eq, List.getElem?_set, if_neg hne]
      cases st.O[i']? with
      | none => rfl
      | some p => simp only; rw [List.set_comm _ _ hne]
    | wrS u x => exact ⟨rfl, rfl, rfl, fun _ => rfl⟩
    | kil K => exact ⟨rfl, rfl, rfl, fun _ => rfl⟩
    | psh os => cases h
  | wrC i j v =>
    cases f with
    | wrO i' p =>
      have hne : i' ≠ i := by rintro rfl; simp [Eff.free, Nat.beq_refl] at h
      refine ⟨by simp only [Eff.app, (wrC_fr _ _ _ _).2.1, setObj], by simp only [Eff.app, (wrC_fr _ _ _ _).2.2, setObj], ?_, fun y => by simp only [Eff.app, (wrC_fr _ _ _ _).1, setObj]⟩
      simp only [Eff.app, wrC_O, setObj, lset_eq, List.getElem?_set, if_neg hne]
      cases st.O[i]? with
      | none => rfl
      | some q => simp only; rw [List.set_comm _ _ hne]
    | wrC i' j' x =>
      have hne : ¬ (i = i' ∧ j = j') := by rintro ⟨rfl, rfl⟩; simp [Eff.free, Nat.beq_refl] at h
      refine ⟨by simp only [Eff.app, (wrC_fr _ _ _ _).2.1], by simp only [Eff.app, (wrC_fr _ _ _ _).2.2], ?_, fun y => by simp only [Eff.app, (wrC_fr _ _ _ _).1]⟩
      simp only [Eff.app, wrC_O]
      by_cases e : i = i'
      · subst e
        have hj : j ≠ j' := fun e => hne ⟨rfl, e⟩
        cases ho : st.O[i]? with
        | none => simp only [ho]
        | some o =>
          have hlt := (List.getElem?_eq_some_iff.1 ho).1
          simp only [List.getElem?_set, if_true, if_pos hlt, List.set_set]
          rw [List.set_comm _ _ hj]
      · cases h1 : st.O[i]? with
        | none =>
          cases h2 : st.O[i']? with
          | none => simp only [h1, h2]
          | some o' => simp only [List.getElem?_set, if_neg (Ne.symm e), h1, h2]
        | some o =>
          cases h2 : st.O[i']? with
          | none => simp only [List.getElem?_set, if_neg e, h1, h2]
          | some o' =>
            simp only [List.getElem?_set, if_neg e, if_neg (Ne.symm e), h1, h2]
            rw [List.set_comm _ _ e]
    | wrS u x => simp only [Eff.app, homePut, objAt]; cases lget st.O i <;> exact ⟨rfl, rfl, rfl, fun _ => rfl⟩
    | kil K => simp only [Eff.app, homePut, objAt]; cases lget st.O i <;> exact ⟨rfl, rfl, rfl, fun _ => rfl⟩
    | psh os => cases h
  | psh os =>
    cases f with
    | wrS u x => exact ⟨rfl, rfl, rfl, fun _ => rfl⟩
    | kil K => exact ⟨rfl, rfl, rfl, fun _ => rfl⟩
    | wrO i o => cases h
    | wrC i j x => cases h
    | psh _ => cases h
theorem app_apps : ∀ (l : List Eff) {e : Eff} (h : freeAll e l = true) (st : St), Alike (e.app (apps l st)) (apps l (e.app st))
  | [], e, h, st => .refl _
  | f :: l, e, h, st => by
    simp only [freeAll, Bool.and_eq_true] at h
    simp only [apps]
    exact (app_apps l h.2 (f.app st)).trans ((app_comm h.1 st).apps l)
theorem apps_comm : ∀ (l m : List Eff) (h : freeEff l m = true) (st : St), Alike (apps l (apps m st)) (apps m (apps l st))
  | [], m, h, st => .refl _
  | e :: l, m, h, st => by
    simp only [freeEff, Bool.and_eq_true] at h
    simp only [apps]
    exact ((app_apps m h.1 st).apps l).trans (apps_comm l m h.2 (e.app st))
end Go.Va
