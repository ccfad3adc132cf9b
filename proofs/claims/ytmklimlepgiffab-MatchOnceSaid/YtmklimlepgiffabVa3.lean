/- The verified abstract interpreter, a part of it: no statement of its own. -/
import Derived.Test.YtmklimlepgiffabVa2
set_option linter.unusedVariables false
set_option linter.unusedSimpArgs false
set_option linter.unusedVariables false
namespace Go.Va
def step (env : Env) : Task → Prog
  | .code f c st => match c with
    | .skip => .done (some (.code .normal st))
    | .region id ops draw =>
      match draw with
      | true => drawProg env ops st.O.length ops.toList st [] [] fun st => .done (some (.code .normal (endRegion env.A (env.live f id) st)))
      | false => regionProg env f ops ops.toList st fun st => .done (some (.code .normal (endRegion env.A (env.live f id) st)))
    | .seq a b => .ask (.code f a st) fun
      | .code .normal st => .ask (.code f b st) fun r => .done (some r)
      | r => .done (some r)
    | .cond c a b => match boolOf (opd st c) with
      | some true => .ask (.code f a st) fun r => .done (some r)
      | some false => .ask (.code f b st) fun r => .done (some r)
      | none => .done none
    | .block id a => .ask (.code f a st) fun
      | .code (.exit j) st => .done (some (.code (bif Nat.beq j id then .normal else .exit j) st))
      | r => .done (some r)
    | .loop a => .ask (.code f a st) fun
      | .code .normal st => .ask (.code f (.loop a) st) fun r => .done (some r)
      | r => .done (some r)
    | .exit id => .done (some (.code (.exit id) st))
    | .ret => .done (some (.code .ret st))
    | _ => .done none
  | .call f args O => match env.ext f with
    | some e => e args O
    | none => match env.fn f with
      | none => .done none
      | some fn => match fn.body with
        | none => .done none
        | some c => if Nat.ble args.length fn.ntmps = false then .done none else .ask (.code f c { n := fn.ntmps, k := O.length, fr := initFr 0 args, O := O }) fun
          | .code .ret st | .code .normal st => match resAll env st fn.results.toList with
            | some (vs, st) => match outOf vs st with
              | some (vs, O) => .done (some (.ret (tupOf vs) O))
              | none => .done none
            | none => .done none
          | _ => .done none

def runN (env : Env) : Nat → Task → Option Res
  | 0, _ => none
  | n + 1, t => (step env t).run (runN env n)

theorem Prog.run_mono {f g : Task → Option Res} (h : ∀ t r, f t = some r → g t = some r) : ∀ (p : Prog) r, p.run f = some r → p.run g = some r
  | .done _, _, e => e
  | .ask t k, r, e => by
    unfold Prog.run at e ⊢
    cases ht : f t with
    | none => rw [ht] at e; cases e
    | some x => rw [ht] at e; rw [h t x ht]; exact Prog.run_mono h (k x) r e
theorem runN_mono (env : Env) (n : Nat) : ∀ t r, runN env n t = some r → runN env (n + 1) t = some r := by
  induction n with
  | zero => intro t r h; cases h
  | succ n ih => intro t r h; exact Prog.run_mono ih _ r h
theorem runN_le (env : Env) {n m : Nat} (h : n ≤ m) {t r} (e : runN env n t = some r) : runN env m t = some r := by
  induction h with
  | refl => exact e
  | step _ ih => exact runN_mono env _ _ _ ih
open Classical in
noncomputable def evl (env : Env) (t : Task) : Option Res := if h : ∃ r, ∃ n, runN env n t = some r then some h.choose else none
theorem evl_of {env : Env} {n t r} (e : runN env n t = some r) : evl env t = some r := by
  have h : ∃ r, ∃ n, runN env n t = some r := ⟨r, n, e⟩
  unfold evl
  rw [dif_pos h]
  obtain ⟨m, hm⟩ := h.choose_spec
  have a := runN_le env (Nat.le_max_left n m) e
  have b := runN_le env (Nat.le_max_right n m) hm
  rw [a] at b
  exact b.symm
theorem of_evl {env : Env} {t r} (e : evl env t = some r) : ∃ n, runN env n t = some r := by
  unfold evl at e
  split at e
  · rename_i h
    obtain ⟨m, hm⟩ := h.choose_spec
    cases e
    exact ⟨m, hm⟩
  · cases e
theorem Prog.run_fin (env : Env) : ∀ (p : Prog) r, p.run (evl env) = some r → ∃ n, p.run (runN env n) = some r
  | .done _, _, e => ⟨0, e⟩
  | .ask t k, r, e => by
    unfold Prog.run at e
    cases ht : evl env t with
    | none => rw [ht] at e; cases e
    | some x =>
      rw [ht] at e
      obtain ⟨n, hn⟩ := Prog.run_fin env (k x) r e
      obtain ⟨m, hm⟩ := of_evl ht
      refine ⟨max n m, ?_⟩
      unfold Prog.run
      rw [runN_le env (Nat.le_max_right n m) hm]
      exact Prog.run_mono (fun t r h => runN_le env (Nat.le_max_left n m) h) (k x) r hn
/-- The evaluator is its own step. -/
theorem evl_step (env : Env) (t : Task) : evl env t = (step env t).run (evl env) := by
  cases h : (step env t).run (evl env) with
  | some r =>
    obtain ⟨n, hn⟩ := Prog.run_fin env _ r h
    exact evl_of (n := n + 1) hn
  | none =>
    cases h2 : evl env t with
    | none => rfl
    | some r =>
      obtain ⟨n, hn⟩ := of_evl h2
      cases n with
      | zero => cases hn
      | succ n =>
        have := Prog.run_mono (fun t r e => evl_of e) _ r hn
        rw [h] at this
        cases this

/-! ### Equations to compute with -/
theorem Prog.run_ask (f t k) : (Prog.ask t k).run f = match f t with | some r => (k r).run f | none => none := by
  rw [Prog.run] <;> (cases f t <;> rfl)
theorem Prog.run_done (f r) : (Prog.done r).run f = r := by rw [Prog.run]

theorem region_run (env : Env) (E : Task → Option Res) (fn : Nat) (ops : Array Oper) (k : St → Prog) : ∀ (l : List Oper) (st : St),
    (regionProg env fn ops l st k).run E = match evr env E ops l st with | some st => (k st).run E | none => none
  | [], st => rfl
  | o :: rest, st => by
    unfold regionProg evr
    cases guardOf ops st o with
    | none => rfl
    | some g =>
      cases g with
      | false => exact region_run env E fn ops k rest _
      | true =>
        simp only
        cases isCall o.op with
        | none =>
          cases stepOp env st o with
          | none => rfl
          | some st => exact region_run env E fn ops k rest _
        | some x =>
          obtain ⟨ce, args⟩ := x
          simp only
          cases calleeOf st ce with
          | none => rfl
          | some y =>
            obtain ⟨f, first, caps⟩ := y
            simp only
            cases callOf env st ce f args with
            | none => rfl
            | some z =>
              obtain ⟨m, as, O, st0⟩ := z
              simp only [Prog.run_ask]
              generalize E _ = r
              cases r with
              | none => rfl
              | some r =>
                cases r with
                | code e st => rfl
                | ret v O2 =>
                  simp only
                  generalize afterCall m st0 v O2 = q
                  cases q with
                  | none => rfl
                  | some q => exact region_run env E fn ops k rest _

theorem runP_run (E : Task → Option Res) : ∀ (m : M) (st : St) (k : St → Trc → Prog), (runP m st k).run E = (match run E m st with | some (st1, T) => (k st1 T).run E | none => none)
  | .ret, st, k => rfl
  | .fail, st, k => rfl
  | .rdN f, st, k => runP_run E (f st.n) st k
  | .rdS t f, st, k => by simp only [runP, run]; rw [runP_run E (f (fget st.fr t)) st]; cases run E (f (fget st.fr t)) st <;> rfl
  | .own t f, st, k => by simp only [runP, run]; rw [runP_run E (f (fget st.fr t).owner) st]; cases run E (f (fget st.fr t).owner) st <;> rfl
  | .rdO i f, st, k => by simp only [runP, run]; rw [runP_run E (f (objAt st i)) st]; cases run E (f (objAt st i)) st <;> rfl
  | .rdC i j f, st, k => by simp only [runP, run]; rw [runP_run E (f (cellAt st i j)) st]; cases run E (f (cellAt st i j)) st <;> rfl
  | .rdL f, st, k => by simp only [runP, run]; rw [runP_run E (f st.O.length) st]; cases run E (f st.O.length) st <;> rfl
  | .wrS t v m, st, k => by simp only [runP, run]; rw [runP_run E m]; cases run E m ((Eff.wrS t v).app st) <;> rfl
  | .wrO i o m, st, k => by simp only [runP, run]; rw [runP_run E m]; cases run E m ((Eff.wrO i o).app st) <;> rfl
  | .wrC i j v m, st, k => by simp only [runP, run]; rw [runP_run E m]; cases run E m ((Eff.wrC i j v).app st) <;> rfl
  | .psh os m, st, k => by simp only [runP, run]; rw [runP_run E m]; cases run E m ((Eff.psh os).app st) <;> rfl
  | .kil K m, st, k => by simp only [runP, run]; rw [runP_run E m]; cases run E m ((Eff.kil K).app st) <;> rfl
  | .ask t f, st, k => by
    simp only [runP, run, Prog.run_ask]
    cases E t with
    | none => rfl
    | some r => exact runP_run E (f r) st k
theorem draw_run (env : Env) (E : Task → Option Res) (ops : Array Oper) (b0 : Nat) (k : St → Prog) : ∀ (l : List Oper) (st : St) (masks : List Nat) (its : List Item),
    (drawProg env ops b0 l st masks its k).run E = match evd env E ops b0 l st masks its with | some st => (k st).run E | none => none
  | [], st, masks, its => rfl
  | o :: rest, st, masks, its => by
    simp only [drawProg, evd]
    rw [runP_run]
    cases run E (opM env ops o) st with
    | none => rfl
    | some r =>
      obtain ⟨st1, T⟩ := r
      simp only
      cases edgesLt masks.length o.after.toList && chk b0 (maskOf masks o.after.toList) 0 its (itemOf T st) with
      | false => rfl
      | true => exact draw_run env E ops b0 k rest _ _ _
/-! Loops go by the number of the first region in them. -/
def firstReg : Code → Option Nat
  | .region id _ _ => some id
  | .seq a b => match firstReg a with
    | some k => some k
    | none => firstReg b
  | .cond _ a b => match firstReg a with
    | some k => some k
    | none => firstReg b
  | .block _ a => firstReg a
  | .loop a => firstReg a
  | _ => none
def keyOf (c : Code) : Nat := match firstReg c with | some k => k | none => 0
/-- the loops in a text: their bodies -/
def loopsOf : Code → List Code
  | .seq a b => loopsOf a ++ loopsOf b
  | .cond _ a b => loopsOf a ++ loopsOf b
  | .block _ a => loopsOf a
  | .loop a => a :: loopsOf a
  | _ => []
def findKey (k : Nat) : List Code → Code
  | [] => .skip
  | c :: l => match Nat.beq (keyOf c) k with
    | true => c
    | false => findKey k l
def loopAt (c : Code) (k : Nat) : Code := findKey k (loopsOf c)
def noKey (k : Nat) : List Code → Bool
  | [] => true
  | c :: l => !(Nat.beq (keyOf c) k) && noKey k l
def keysOk : List Code → Bool
  | [] => true
  | c :: l => noKey (keyOf c) l && keysOk l
theorem noKey_mem {a : Code} {k : Nat} : ∀ {l : List Code}, noKey k l = true → a ∈ l → Nat.beq k (keyOf a) = false
  | [], _, h => by cases h
  | d :: l, hn, h => by
    simp only [noKey, Bool.and_eq_true, Bool.not_eq_true'] at hn
    rcases List.mem_cons.1 h with rfl | h
    · cases hb : Nat.beq k (keyOf a) with
      | false => rfl
      | true =>
        have e := hn.1
        rw [Nat.eq_of_beq_eq_true hb, Nat.beq_refl] at e
        cases e
    · exact noKey_mem hn.2 h
theorem findKey_mem {a : Code} : ∀ {l : List Code}, keysOk l = true → a ∈ l → findKey (keyOf a) l = a
  | [], _, h => by cases h
  | c :: l, hk, h => by
    simp only [keysOk, Bool.and_eq_true] at hk
    unfold findKey
    rcases List.mem_cons.1 h with rfl | h
    · rw [show Nat.beq (keyOf a) (keyOf a) = true from Nat.beq_refl _]
    · rw [noKey_mem hk.1 h]
      exact findKey_mem hk.2 h

/-- code; calls by E, loops by LP -/
def evc (env : Env) (E : Task → Option Res) (LP : Nat → St → Option Res) (f : Nat) (lv : Nat → List Nat) : Code → St → Option Res
  | .skip, st => some (.code .normal st)
  | .region id ops draw, st => match (match draw with
    | true => evd env E ops st.O.length ops.toList st [] []
    | false => evr env E ops ops.toList st) with
      | some st => some (.code .normal (endRegion env.A (lv id) st))
      | none => none
  | .seq a b, st => match evc env E LP f lv a st with
    | some (.code .normal st) => evc env E LP f lv b st
    | r => r
  | .cond c a b, st => match boolOf (opd st c) with
    | some true => evc env E LP f lv a st
    | some false => evc env E LP f lv b st
    | none => none
  | .block id a, st => match evc env E LP f lv a st with
    | some (.code (.exit j) st) => some (.code (bif Nat.beq j id then .normal else .exit j) st)
    | r => r
  | .loop a, st => LP (keyOf a) st
  | .exit id, st => some (.code (.exit id) st)
  | .ret, st => some (.code .ret st)
  | _, _ => none

theorem step_region (env : Env) (f id ops draw st) : step env (.code f (.region id ops draw) st) =
    match draw with
      | true => drawProg env ops st.O.length ops.toList st [] [] fun st => .done (some (.code .normal (endRegion env.A (env.live f id) st)))
      | false => regionProg env f ops ops.toList st fun st => .done (some (.code .normal (endRegion env.A (env.live f id) st))) := by
  unfold step
  rfl
theorem step_seq (env : Env) (f a b st) : step env (.code f (.seq a b) st) = .ask (.code f a st) fun
      | .code .normal st => .ask (.code f b st) fun r => .done (some r)
      | r => .done (some r) := by unfold step; rfl
theorem step_cond (env : Env) (f c a b st) : step env (.code f (.cond c a b) st) = match boolOf (opd st c) with
      | some true => .ask (.code f a st) fun r => .done (some r)
      | some false => .ask (.code f b st) fun r => .done (some r)
      | none => .done none := by unfold step; rfl
theorem step_block (env : Env) (f id a st) : step env (.code f (.block id a) st) = .ask (.code f a st) fun
      | .code (.exit j) st => .done (some (.code (bif Nat.beq j id then .normal else .exit j) st))
      | r => .done (some r) := by unfold step; rfl
theorem step_loop (env : Env) (f a st) : step env (.code f (.loop a) st) = .ask (.code f a st) fun
      | .code .normal st => .ask (.code f (.loop a) st) fun r => .done (some r)
      | r => .done (some r) := by unfold step; rfl
theorem run_same (E : Task → Option Res) (t : Task) : (Prog.ask t fun r => .done (some r)).run E = E t := by
  rw [Prog.run_ask]; cases E t <;> simp only [Prog.run_done]
/-- what the loops of a function come to -/
noncomputable def lpOf (env : Env) (f : Nat) (c : Code) (k : Nat) (st : St) : Option Res := evl env (.code f (.loop (loopAt c k)) st)
theorem evl_code (env : Env) (f : Nat) (c0 : Code) (hk : keysOk (loopsOf c0) = true) : ∀ (c : Code) (_ : ∀ a, a ∈ loopsOf c → a ∈ loopsOf c0) (st : St),
    evl env (.code f c st) = evc env (evl env) (lpOf env f c0) f (env.live f) c st
  | .skip, _, st => by rw [evl_step]; unfold step; simp only [evc, Prog.run_done]
  | .region id ops draw, _, st => by
    rw [evl_step, step_region]; simp only [evc]
    cases draw with
    | true =>
      simp only
      rw [draw_run]
      cases evd env (evl env) ops st.O.length ops.toList st [] [] with
      | none => rfl
      | some st => simp only [Prog.run_done]
    | false =>
      simp only
      rw [region_run]
      cases evr env (evl env) ops ops.toList st with
      | none => rfl
      | some st => simp only [Prog.run_done]
  | .seq a b, h, st => by
    rw [evl_step, step_seq, Prog.run_ask, evl_code env f c0 hk a (fun x hx => h x (by simp only [loopsOf, List.mem_append]; exact .inl hx)) st]; simp only [evc]
    cases evc env (evl env) (lpOf env f c0) f (env.live f) a st with
    | none => rfl
    | some r => cases r with
      | ret => simp only [Prog.run_done]
      | code e st => cases e with
        | normal => simp only [run_same]; rw [evl_code env f c0 hk b (fun x hx => h x (by simp only [loopsOf, List.mem_append]; exact .inr hx)) st]
        | _ => simp only [Prog.run_done]
  | .cond c a b, h, st => by
    rw [evl_step, step_cond]; simp only [evc]
    cases boolOf (opd st c) with
    | none => simp only [Prog.run_done]
    | some t => cases t with
      | true => simp only [run_same]; rw [evl_code env f c0 hk a (fun x hx => h x (by simp only [loopsOf, List.mem_append]; exact .inl hx)) st]
      | false => simp only [run_same]; rw [evl_code env f c0 hk b (fun x hx => h x (by simp only [loopsOf, List.mem_append]; exact .inr hx)) st]
  | .block id a, h, st => by
    rw [evl_step, step_block, Prog.run_ask, evl_code env f c0 hk a (fun x hx => h x (by simpa only [loopsOf] using hx)) st]; simp only [evc]
    cases evc env (evl env) (lpOf env f c0) f (env.live f) a st with
    | none => rfl
    | some r => cases r with
      | ret => simp only [Prog.run_done]
      | code e st => cases e <;> simp only [Prog.run_done]
  | .loop a, h, st => by
    simp only [evc, lpOf, loopAt]
    rw [findKey_mem hk (h a (by simp only [loopsOf, List.mem_cons]; exact .inl trivial))]
  | .exit id, _, st => by rw [evl_step]; unfold step; simp only [evc, Prog.run_done]
  | .ret, _, st => by rw [evl_step]; unfold step; simp only [evc, Prog.run_done]
  | .rangeFunc .., _, st => by rw [evl_step]; unfold step; simp only [evc, Prog.run_done]
  | .scope _, _, st => by rw [evl_step]; unfold step; simp only [evc, Prog.run_done]
  | .label _, _, st => by rw [evl_step]; unfold step; simp only [evc, Prog.run_done]
  | .goto _, _, st => by rw [evl_step]; unfold step; simp only [evc, Prog.run_done]
  | .refuse _, _, st => by rw [evl_step]; unfold step; simp only [evc, Prog.run_done]
theorem loops_in {a c0 : Code} : ∀ {c : Code}, (∀ x, x ∈ loopsOf c → x ∈ loopsOf c0) → a ∈ loopsOf c → ∀ x, x ∈ loopsOf a → x ∈ loopsOf c0
  | .seq b d, h, ha => by
    simp only [loopsOf, List.mem_append] at ha h
    rcases ha with ha | ha
    · exact loops_in (fun x hx => h x (.inl hx)) ha
    · exact loops_in (fun x hx => h x (.inr hx)) ha
  | .cond _ b d, h, ha => by
    simp only [loopsOf, List.mem_append] at ha h
    rcases ha with ha | ha
    · exact loops_in (fun x hx => h x (.inl hx)) ha
    · exact loops_in (fun x hx => h x (.inr hx)) ha
  | .block _ b, h, ha => by
    simp only [loopsOf] at ha h
    exact loops_in h ha
  | .loop b, h, ha => by
    simp only [loopsOf, List.mem_cons] at ha h
    rcases ha with rfl | ha
    · exact fun x hx => h x (.inr hx)
    · exact loops_in (fun x hx => h x (.inr hx)) ha
theorem findKey_or (k : Nat) : ∀ l : List Code, findKey k l = .skip ∨ findKey k l ∈ l
  | [] => .inl rfl
  | c :: l => by
    unfold findKey
    cases Nat.beq (keyOf c) k with
    | true => exact .inr (List.mem_cons_self ..)
    | false => exact (findKey_or k l).imp id (List.mem_cons_of_mem _)
/-- one round of a loop -/
theorem lp_step (env : Env) (f : Nat) {c0 : Code} {lv} (hk : keysOk (loopsOf c0) = true) (hl : env.live f = lv) (k : Nat) (st : St) : lpOf env f c0 k st =
    match evc env (evl env) (lpOf env f c0) f lv (loopAt c0 k) st with
    | some (.code .normal st) => lpOf env f c0 k st
    | r => r := by
  subst hl
  have hin : ∀ a, a ∈ loopsOf (loopAt c0 k) → a ∈ loopsOf c0 := by
    unfold loopAt
    rcases findKey_or k (loopsOf c0) with h | h
    · rw [h]; intro a ha; cases ha
    · exact loops_in (fun x hx => hx) h
  conv => lhs; unfold lpOf
  rw [evl_step, step_loop, Prog.run_ask, evl_code env f c0 hk _ hin st]
  cases evc env (evl env) (lpOf env f c0) f (env.live f) (loopAt c0 k) st with
  | none => rfl
  | some r => cases r with
    | ret => simp only [Prog.run_done]
    | code e st => cases e with
      | normal => simp only [run_same]; rfl
      | _ => simp only [Prog.run_done]
def retOf (env : Env) (f : Nat) (fn : Func) (r : Option Res) : Option Res :=
  match r with
  | some (.code .ret st) | some (.code .normal st) => match resAll env st fn.results.toList with
    | some (vs, st) => match outOf vs st with
      | some (vs, O) => some (.ret (tupOf vs) O)
      | none => none
    | none => none
  | _ => none
theorem evl_fn (env : Env) (f : Nat) (args O) {fn : Func} {c : Code} {lv} (he : env.ext f = none) (hf : env.fn f = some fn) (hb : fn.body = some c) (hl : env.live f = lv) (hk : keysOk (loopsOf c) = true) (hn : Nat.ble args.length fn.ntmps = true) :
    evl env (.call f args O) = retOf env f fn (evc env (evl env) (lpOf env f c) f lv c { n := fn.ntmps, k := O.length, fr := initFr 0 args, O := O }) := by
  subst hl
  have e : step env (.call f args O) = .ask (.code f c { n := fn.ntmps, k := O.length, fr := initFr 0 args, O := O }) fun
          | .code .ret st | .code .normal st => match resAll env st fn.results.toList with
            | some (vs, st) => match outOf vs st with
              | some (vs, O) => .done (some (.ret (tupOf vs) O))
              | none => .done none
            | none => .done none
          | _ => .done none := by
    unfold step
    simp only [he, hf, hb]
    rw [if_neg (by rw [hn]; simp)]
  rw [evl_step, e, Prog.run_ask, evl_code env f c hk c (fun _ h => h)]
  unfold retOf
  cases evc env (evl env) (lpOf env f c) f (env.live f) c { n := fn.ntmps, k := O.length, fr := initFr 0 args, O := O } with
  | none => rfl
  | some r => cases r with
    | ret => simp only [Prog.run_done]
    | code e st =>
      cases e with
      | exit => simp only [Prog.run_done]
      | _ =>
        simp only
        cases resAll env st fn.results.toList with
        | none => simp only [Prog.run_done]
        | some q =>
          obtain ⟨vs, st⟩ := q
          simp only
          cases outOf vs st with
          | none => simp only [Prog.run_done]
          | some q => simp only [Prog.run_done]
theorem evl_ext (env : Env) (f : Nat) (args O) {e} (he : env.ext f = some e) : evl env (.call f args O) = (e args O).run (evl env) := by
  rw [evl_step]; unfold step
  simp only [he]

end Go.Va
