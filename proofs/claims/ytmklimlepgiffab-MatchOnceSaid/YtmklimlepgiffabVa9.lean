/- The verified abstract interpreter, a part of it: no statement of its own. -/
import Derived.Test.YtmklimlepgiffabVa8
set_option linter.unusedVariables false
set_option linter.unusedSimpArgs false
set_option linter.unusedVariables false
namespace Go.Va
section
variable {env : Env} {E : Task → Option Res} {ops : Array Oper} {b0 : Nat}
theorem evd_spec : ∀ (rest : List Oper) {st st1 : St} {masks : List Nat} {its : List Item}, rest = ops.toList.drop masks.length → its.length = masks.length →
    (∀ (i m : Nat), masks[i]? = some m → ∀ p, m.testBit p = true → Leads ops p i) → evd env E ops b0 rest st masks its = some st1 →
    ∃ its', Runs E (rest.map (opM env ops)) st its' st1 ∧ ∀ (j : Nat) (b : Item) (o : Oper), its'[j]? = some b → rest[j]? = some o →
      edgesLt (masks.length + j) o.after.toList = true ∧ ∀ (i : Nat) (a : Item), i < masks.length + j → (its ++ its')[i]? = some a → Leads ops i (masks.length + j) ∨ apart b0 a b = true
  | [], st, st1, masks, its, _, _, _, h => by
    cases h
    exact ⟨[], .nil _, fun j b o e => by simp at e⟩
  | o :: rest, st, st1, masks, its, hr, hl, hm, h => by
    have ho : ops[masks.length]? = some o := by
      have : (ops.toList.drop masks.length)[0]? = some o := by rw [← hr]; rfl
      rw [List.getElem?_drop] at this
      simpa using this
    simp only [evd] at h
    cases hrun : run E (opM env ops o) st with
    | none => rw [hrun] at h; cases h
    | some r =>
      obtain ⟨s1, T⟩ := r
      rw [hrun] at h
      simp only at h
      cases hc : edgesLt masks.length o.after.toList && chk b0 (maskOf masks o.after.toList) 0 its (itemOf T st) with
      | false => rw [hc] at h; cases h
      | true =>
        rw [hc] at h
        simp only [cond_true] at h
        simp only [Bool.and_eq_true] at hc
        have hmask := mask_reach hm ho o.after.toList (fun e he => by simpa using he)
        obtain ⟨its', k1, k2⟩ := evd_spec rest (masks := masks ++ [maskOf masks o.after.toList]) (its := its ++ [itemOf T st])
          (by rw [List.length_append, List.length_singleton, ← List.drop_drop, ← hr]; rfl) (by simp [hl]) (fun i m e p hp => by
            rw [List.getElem?_append] at e
            split at e
            · exact hm i m e p hp
            · rename_i hlt
              have : i = masks.length := by
                by_cases q : i = masks.length
                · exact q
                · rw [List.getElem?_eq_none (by simp; omega)] at e; cases e
              subst this
              simp at e
              subst e
              exact hmask p hp) h
        refine ⟨itemOf T st :: its', .cons hrun k1, fun j b o' e1 e2 => ?_⟩
        cases j with
        | zero =>
          simp at e1 e2
          subst e1 e2
          refine ⟨hc.1, fun i a hi e => ?_⟩
          rw [List.getElem?_append_left (by omega)] at e
          rcases chk_get hc.2 i a e with q | q
          · rw [Nat.zero_add] at q; exact .inl (hmask i q)
          · exact .inr q
        | succ j =>
          have := k2 j b o' (by simpa using e1) (by simpa using e2)
          simp only [List.length_append, List.length_singleton, List.append_assoc, List.singleton_append] at this
          rw [show masks.length + (j + 1) = masks.length + 1 + j by omega]
          exact this
def mm (env : Env) (ops : Array Oper) (j : Nat) : M := match ops[j]? with
  | some o => opM env ops o
  | none => .ret
theorem reach_listed {listed : Array Bool} (closed : ∀ (j : Nat) (o : Oper) (e : Edge), ops[j]? = some o → listed.getD j false = true → e ∈ o.after → Region.binds .any e = true → listed.getD e.on false = true) {p j : Nat} (r : Leads ops p j) :
    (∀ (o : Oper) (e : Edge), ops[j]? = some o → e ∈ o.after → Region.binds .any e = true → listed.getD e.on false = true) → listed.getD p false = true := by
  induction r with
  | edge h he hb => intro k; exact k _ _ h he hb
  | step h he hb r ih =>
    intro k
    have hk := k _ _ h he hb
    exact ih (fun o e ho he' hb' => closed _ o e ho hk he' hb')
theorem split_at {l : List Nat} {i : Nat} (h : i ∈ l) : ∃ pre post, l = pre ++ i :: post := List.append_of_mem h
theorem order (hedge : ∀ (j : Nat) (o : Oper) (e : Edge), ops[j]? = some o → e ∈ o.after → Region.binds .any e = true → e.on < j) {itm : Nat → Item}
    (hpair : ∀ (i j : Nat), i < j → j < ops.size → Leads ops i j ∨ apart b0 (itm i) (itm j) = true) :
    ∀ (fuel t : Nat) (listed : Array Bool) (l : List Nat) (st s2 : St), l.length ≤ fuel → listed.size = ops.size → (∀ j, j ∈ l ↔ j < ops.size ∧ listed.getD j true = false) → l.Pairwise (· < ·) →
      (∀ (j : Nat) (o : Oper) (e : Edge), ops[j]? = some o → listed.getD j false = true → e ∈ o.after → Region.binds .any e = true → listed.getD e.on false = true) → b0 ≤ st.O.length →
      Runs E (l.map (mm env ops)) st (l.map itm) s2 → ∃ s', evr env E ops ((Region.linearise.go .any ops fuel t listed []).filterMap (fun i => ops[i]?)) st = some s' ∧ Alike s2 s' := by
  intro fuel
  induction fuel with
  | zero =>
    intro t listed l st s2 hl hsz hmem hs hc hb h
    have : l = [] := List.eq_nil_of_length_eq_zero (by omega)
    subst this
    cases h
    exact ⟨st, by simp [Region.linearise.go, evr], .refl _⟩
  | succ fuel ih =>
    intro t listed l st s2 hl hsz hmem hs hc hb h
    have getT : ∀ j, j < ops.size → listed.getD j true = listed.getD j false := fun j hj => by
      simp [Array.getD, show j < listed.size by omega]
    -- nothing is left, or something is ready
    have hready : Region.ready .any ops listed = [] → l = [] := by
      intro hr
      cases l with
      | nil => rfl
      | cons x l' =>
        exfalso
        obtain ⟨hx, hxl⟩ := (hmem x).1 (by simp)
        have : x ∈ Region.ready .any ops listed := by
          rw [mem_ready]
          refine ⟨hxl, ops[x], by simp [hx], fun e he hbd => ?_⟩
          have hlt := hedge x ops[x] e (by simp [hx]) he hbd
          have hn : e.on ∉ x :: l' := by
            intro hin
            rcases List.mem_cons.1 hin with q | q
            · omega
            · have := (List.pairwise_cons.1 hs).1 _ q; omega
          have : ¬ (e.on < ops.size ∧ listed.getD e.on true = false) := fun k => hn ((hmem _).2 k)
          have h1 : e.on < ops.size := by omega
          rw [getT _ h1] at this
          cases hg : listed.getD e.on false with
          | true => rfl
          | false => exact (this ⟨h1, hg⟩).elim
        rw [hr] at this
        cases this
    simp only [Region.linearise.go]
    change ∃ s', evr env E ops ((match (Region.ready .any ops listed)[t % (Region.ready .any ops listed).length]? with
      | some i => Region.linearise.go .any ops fuel (t / (Region.ready .any ops listed).length) (listed.setIfInBounds i true) [i]
      | none => [].reverse).filterMap (fun i => ops[i]?)) st = some s' ∧ Alike s2 s'
    cases hi : (Region.ready .any ops listed)[t % (Region.ready .any ops listed).length]? with
    | none =>
      have hnil : Region.ready .any ops listed = [] := by
        cases hr : Region.ready .any ops listed with
        | nil => rfl
        | cons x xs =>
          rw [hr] at hi
          have hlt : t % (x :: xs).length < (x :: xs).length := Nat.mod_lt _ (by simp)
          simp at hi
          simp at hlt
          omega
      have := hready hnil
      subst this
      cases h
      exact ⟨st, by simp [evr], .refl _⟩
    | some i =>
      simp only
      rw [linearise_go_acc, List.reverse_singleton, List.singleton_append]
      have hir := List.mem_of_getElem? hi
      obtain ⟨hil, o, ho, hpre⟩ := mem_ready.1 hir
      have hin : i < ops.size := (Array.getElem?_eq_some_iff.1 ho).1
      obtain ⟨pre, post, rfl⟩ := split_at ((hmem i).2 ⟨hin, hil⟩)
      have hps := List.pairwise_append.1 hs
      have hapart : ∀ p ∈ pre, apart b0 (itm p) (itm i) = true := by
        intro p hp
        have hlt : p < i := hps.2.2 p hp i (by simp)
        rcases hpair p i hlt hin with q | q
        · exfalso
          have := reach_listed hc q (fun o' e ho' he hb' => by rw [ho] at ho'; cases ho'; exact hpre e he hb')
          have h2 := ((hmem p).1 (by simp [hp])).2
          rw [getT p (by omega), this] at h2
          cases h2
        · exact q
      simp only [List.map_append, List.map_cons] at h
      obtain ⟨s3, k1, k2⟩ := Runs.move (pre.map (mm env ops)) hb h (by simp) (fun q hq => by
        obtain ⟨p, hp, rfl⟩ := List.mem_map.1 hq
        exact hapart p hp)
      generalize hg : itm i :: (pre.map itm ++ post.map itm) = L at k1
      cases k1 with
      | cons h' t' =>
        rename_i st1 T its
        simp only [List.cons.injEq] at hg
        obtain ⟨hg1, rfl⟩ := hg
        have hst1 := run_apps h'
        have hop : evo env E ops o st = some st1 := by
          refine ev_op env ops o (run_ev _ (T := T) ?_)
          have : mm env ops i = opM env ops o := by simp only [mm, ho]
          rw [← this]; exact h'
        have hget : ∀ j d, (listed.setIfInBounds i true).getD j d = if i = j then true else listed.getD j d := by
          intro j d
          by_cases e : i = j
          · subst e; simp [Array.getD, hsz, hin]
          · rw [getD_set_ne d e, if_neg e]
        have hnd : i ∉ pre ∧ i ∉ post := by
          refine ⟨fun q => ?_, fun q => ?_⟩
          · have := hps.2.2 i q i (by simp); omega
          · have := (List.pairwise_cons.1 hps.2.1).1 i q; omega
        obtain ⟨s4, m1, m2⟩ := ih (t / (Region.ready .any ops listed).length) (listed.setIfInBounds i true) (pre ++ post) st1 s3 (by simp at hl ⊢; omega) (by simp [hsz]) (fun j => by
            have hj := hmem j
            rw [hget]
            simp only [List.mem_append, List.mem_cons] at hj ⊢
            by_cases e : i = j
            · subst e
              simp [hnd.1, hnd.2]
            · rw [if_neg e, ← hj]
              constructor
              · rintro (q | q)
                · exact .inl q
                · exact .inr (.inr q)
              · rintro (q | q | q)
                · exact .inl q
                · exact (e q.symm).elim
                · exact .inr q)
          (by
            refine List.pairwise_append.2 ⟨hps.1, (List.pairwise_cons.1 hps.2.1).2, fun a ha b hb => hps.2.2 a ha b (by simp [hb])⟩)
          (fun j o' e ho' hj he hbd => by
            rw [hget] at hj ⊢
            by_cases q : i = e.on
            · rw [if_pos q]
            · rw [if_neg q]
              by_cases q2 : i = j
              · subst q2
                rw [ho] at ho'; cases ho'
                exact hpre e he hbd
              · rw [if_neg q2] at hj
                exact hc j o' e ho' hj he hbd)
          (by rw [hst1]; exact Nat.le_trans hb (apps_len _ _)) (by rw [List.map_append, List.map_append]; exact t')
        refine ⟨s4, ?_, k2.trans m2⟩
        rw [List.filterMap_cons, ho]
        simp only
        rw [evr_cons, hop]
        exact m1
/-- What a region does in the text's order it does in any. -/
theorem draw_ok {st st1 : St} (h : evd env E ops st.O.length ops.toList st [] [] = some st1) (t : Nat) :
    ∃ s', evr env E ops ((Region.linearise .any ops t).filterMap (fun i => ops[i]?)) st = some s' ∧ Alike st1 s' := by
  obtain ⟨its, k1, k2⟩ := evd_spec ops.toList (by simp) rfl (by simp) h
  have hlen := k1.len
  simp only [List.length_map, Array.length_toList] at hlen
  simp only [List.length_nil, Nat.zero_add, List.nil_append] at k2
  have get : ∀ j, j < ops.size → ∃ b o, its[j]? = some b ∧ ops.toList[j]? = some o ∧ ops[j]? = some o := fun j hj =>
    ⟨its[j]'(by omega), ops[j], by simp, by simp [hj], by simp [hj]⟩
  refine order (b0 := st.O.length) (itm := fun j => (its[j]?).getD ⟨Trc.none, []⟩) (fun j o e ho he hb => ?_) (fun i j hij hj => ?_) ops.size t _ (List.range ops.size) st st1 (by simp) (by simp) (fun j => ?_) ?_ (fun j o e ho hj => ?_) (Nat.le_refl _) ?_
  · have hj : j < ops.size := (Array.getElem?_eq_some_iff.1 ho).1
    obtain ⟨b, o', e1, e2, e3⟩ := get j hj
    rw [ho] at e3; cases e3
    exact edgesLt_mem (k2 j b o e1 e2).1 e (by simpa using he) hb
  · obtain ⟨b, o', e1, e2, e3⟩ := get j hj
    obtain ⟨a, o2, f1, f2, f3⟩ := get i (by omega)
    simp only [e1, f1, Option.getD_some]
    exact (k2 j b o' e1 e2).2 i a hij f1
  · simp only [List.mem_range]
    constructor
    · intro hj; exact ⟨hj, by simp [Array.getD, hj]⟩
    · exact fun h => h.1
  · exact List.pairwise_lt_range
  · have hj' : j < ops.size := (Array.getElem?_eq_some_iff.1 ho).1
    simp [Array.getD, hj'] at hj
  · have h1 : (List.range ops.size).map (mm env ops) = ops.toList.map (opM env ops) := by
      apply List.ext_getElem?
      intro j
      simp only [List.getElem?_map]
      by_cases hj : j < ops.size
      · rw [List.getElem?_range hj]
        simp [mm, hj]
      · rw [List.getElem?_eq_none (by simpa using hj), List.getElem?_eq_none (by simpa using hj)]
        rfl
    have h2 : (List.range ops.size).map (fun j => (its[j]?).getD ⟨Trc.none, []⟩) = its := by
      apply List.ext_getElem?
      intro j
      simp only [List.getElem?_map]
      by_cases hj : j < ops.size
      · rw [List.getElem?_range hj]
        simp [show j < its.length by omega]
      · rw [List.getElem?_eq_none (by simpa using hj), List.getElem?_eq_none (by omega)]
        rfl
    rw [h1, h2]
    exact k1
end
end Go.Va
