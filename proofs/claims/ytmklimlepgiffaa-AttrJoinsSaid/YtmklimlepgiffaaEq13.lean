/- The functions that the statement reaches, by equations: no statement of its own. -/
import Derived.Test.YtmklimlepgiffaaEq12
set_option linter.unusedVariables false
set_option linter.unusedSimpArgs false
set_option linter.unusedSectionVars false
namespace Go.Va
open Go.Proofs
set_option maxRecDepth 100000
set_option maxHeartbeats 4000000
section
variable (A : Ar) (hA : ArOk A) (xs ys ps qs : List AV) (n m k k2 : Nat) (q1 q2 : Bool)
include hA
theorem eq_attr_Same_f (e0 : xs.length = n) (e1 : ys.length = m) (e2 : 0 + n = n) (e3 : lcut xs 0 n = xs) (e4 : Nat.ble n n = true) (h1 : evl (envV A) (.call 91 [.sl 3 xs .ro, .sl 3 ys .ro] []) = some (.ret (.s (.bool q1)) [])) :
    evl (envV A) (.call 65 [.sl 3 xs .full, .sl 3 ys .ro] []) = some (.ret (.s (.bool q1)) []) := by
  rw [evl_fn (envV A) 65 _ _ (fn := Try.f65) (c := bd65) (lv := lvF65) rfl rfl rfl rfl rfl rfl]
  have hnle := hA.nleE; have hneq := hA.neqE
  have klt := hA.lt; have kle := hA.le; have keq := hA.eq; have knle := hA.nle; have kneq := hA.neq
  generalize lpOf (envV A) 65 bd65 = LP
  generalize evl (envV A) = E at e0 e1 e2 e3 e4 h1 ⊢
  obtain ⟨aadd, asub, amul, arem, aquo, awr, ashr, aeq, alt, ale, aseq, aslt, acat, acut, asiz, aat, anle, aneq, afit⟩ := A
  simp only at hnle hneq
  subst hnle hneq
  simp only at klt kle keq knle kneq
  try simp only at h1
  conv at e0 => lhs; cbv
  conv at e1 => lhs; cbv
  conv at e2 => lhs; cbv
  conv at e3 => lhs; cbv
  conv at e4 => lhs; cbv
  cbv
  rewrite [e0]
  cbv
  rewrite [e2]
  cbv
  rewrite [e3]
  cbv
  rewrite [e4]
  cbv
  rewrite [h1]
  cbv
theorem eq_aj_few1 (h0 : evl (envV A) (.call 60 [] []) = some (.ret (.s (.bool true)) [])) (h1 : evl (envV A) (.call 61 [.sl 3 xs .imm] []) = some (.ret (.s (.int .i64 0)) [])) :
    evl (envV A) (.call 13 [.sl 3 xs .imm, .sl 3 ys .imm] []) = some (.ret (.s (.bool true)) []) := by
  rw [evl_fn (envV A) 13 _ _ (fn := Try.f13) (c := bd13) (lv := lvF13) rfl rfl rfl rfl rfl rfl]
  have hnle := hA.nleE; have hneq := hA.neqE
  have klt := hA.lt; have kle := hA.le; have keq := hA.eq; have knle := hA.nle; have kneq := hA.neq
  generalize lpOf (envV A) 13 bd13 = LP
  generalize evl (envV A) = E at h0 h1 ⊢
  obtain ⟨aadd, asub, amul, arem, aquo, awr, ashr, aeq, alt, ale, aseq, aslt, acat, acut, asiz, aat, anle, aneq, afit⟩ := A
  simp only at hnle hneq
  subst hnle hneq
  simp only at klt kle keq knle kneq
  try simp only at h0 h1
  cbv
  rewrite [h0]
  cbv
  rewrite [h1]
  cbv
  rewrite [keq (0) (0)]
  cbv
theorem eq_aj_few2 (h0 : evl (envV A) (.call 60 [] []) = some (.ret (.s (.bool true)) [])) (h1 : evl (envV A) (.call 61 [.sl 3 xs .imm] []) = some (.ret (.s (.int .i64 1)) [])) (h2 : evl (envV A) (.call 61 [.sl 3 ys .imm] []) = some (.ret (.s (.int .i64 0)) [])) :
    evl (envV A) (.call 13 [.sl 3 xs .imm, .sl 3 ys .imm] []) = some (.ret (.s (.bool true)) []) := by
  rw [evl_fn (envV A) 13 _ _ (fn := Try.f13) (c := bd13) (lv := lvF13) rfl rfl rfl rfl rfl rfl]
  have hnle := hA.nleE; have hneq := hA.neqE
  have klt := hA.lt; have kle := hA.le; have keq := hA.eq; have knle := hA.nle; have kneq := hA.neq
  generalize lpOf (envV A) 13 bd13 = LP
  generalize evl (envV A) = E at h0 h1 h2 ⊢
  obtain ⟨aadd, asub, amul, arem, aquo, awr, ashr, aeq, alt, ale, aseq, aslt, acat, acut, asiz, aat, anle, aneq, afit⟩ := A
  simp only at hnle hneq
  subst hnle hneq
  simp only at klt kle keq knle kneq
  try simp only at h0 h1 h2
  cbv
  rewrite [h0]
  cbv
  rewrite [h1]
  cbv
  rewrite [keq (1) (0)]
  cbv
  rewrite [h2]
  cbv
  rewrite [keq (0) (0)]
  cbv
theorem eq_aj_no (h0 : evl (envV A) (.call 60 [] []) = some (.ret (.s (.bool true)) [])) (h1 : evl (envV A) (.call 61 [.sl 3 xs .imm] []) = some (.ret (.s (.int .i64 1)) [])) (h2 : evl (envV A) (.call 61 [.sl 3 ys .imm] []) = some (.ret (.s (.int .i64 1)) []))
    (h3 : evl (envV A) (.call 63 [.sl 3 xs .imm] []) = some (.ret (.s (.bool q1)) [])) (h4 : evl (envV A) (.call 63 [.sl 3 ys .imm] []) = some (.ret (.s (.bool q2)) [])) (h5 : (q1 && q2) = false) :
    evl (envV A) (.call 13 [.sl 3 xs .imm, .sl 3 ys .imm] []) = some (.ret (.s (.bool true)) []) := by
  cases q1
  · clear h5
    rw [evl_fn (envV A) 13 _ _ (fn := Try.f13) (c := bd13) (lv := lvF13) rfl rfl rfl rfl rfl rfl]
    have hnle := hA.nleE; have hneq := hA.neqE
    have klt := hA.lt; have kle := hA.le; have keq := hA.eq; have knle := hA.nle; have kneq := hA.neq
    generalize lpOf (envV A) 13 bd13 = LP
    generalize evl (envV A) = E at h0 h1 h2 h3 ⊢
    obtain ⟨aadd, asub, amul, arem, aquo, awr, ashr, aeq, alt, ale, aseq, aslt, acat, acut, asiz, aat, anle, aneq, afit⟩ := A
    simp only at hnle hneq
    subst hnle hneq
    simp only at klt kle keq knle kneq
    try simp only at h0 h1 h2 h3
    cbv
    rewrite [h0]
    cbv
    rewrite [h1]
    cbv
    rewrite [keq (1) (0)]
    cbv
    rewrite [h2]
    cbv
    rewrite [keq (1) (0)]
    cbv
    rewrite [h3]
    cbv
  · have h5 : q2 = false := by simpa using h5
    subst h5
    rw [evl_fn (envV A) 13 _ _ (fn := Try.f13) (c := bd13) (lv := lvF13) rfl rfl rfl rfl rfl rfl]
    have hnle := hA.nleE; have hneq := hA.neqE
    have klt := hA.lt; have kle := hA.le; have keq := hA.eq; have knle := hA.nle; have kneq := hA.neq
    generalize lpOf (envV A) 13 bd13 = LP
    generalize evl (envV A) = E at h0 h1 h2 h3 h4 ⊢
    obtain ⟨aadd, asub, amul, arem, aquo, awr, ashr, aeq, alt, ale, aseq, aslt, acat, acut, asiz, aat, anle, aneq, afit⟩ := A
    simp only at hnle hneq
    subst hnle hneq
    simp only at klt kle keq knle kneq
    try simp only at h0 h1 h2 h3 h4
    cbv
    rewrite [h0]
    cbv
    rewrite [h1]
    cbv
    rewrite [keq (1) (0)]
    cbv
    rewrite [h2]
    cbv
    rewrite [keq (1) (0)]
    cbv
    rewrite [h3]
    cbv
    rewrite [h4]
    cbv
theorem eq_aj (h0 : evl (envV A) (.call 60 [] []) = some (.ret (.s (.bool true)) [])) (h1 : evl (envV A) (.call 61 [.sl 3 xs .imm] []) = some (.ret (.s (.int .i64 1)) [])) (h2 : evl (envV A) (.call 61 [.sl 3 ys .imm] []) = some (.ret (.s (.int .i64 1)) []))
    (h3 : evl (envV A) (.call 63 [.sl 3 xs .imm] []) = some (.ret (.s (.bool true)) [])) (h4 : evl (envV A) (.call 63 [.sl 3 ys .imm] []) = some (.ret (.s (.bool true)) []))
    (h5 : evl (envV A) (.call 67 [.sl 3 xs .imm, .sl 3 ys .imm] []) = some (.ret (.sl 3 ps .full) [])) (h6 : evl (envV A) (.call 69 [.sl 3 ys .imm] []) = some (.ret (.sl 3 qs .full) []))
    (h7 : evl (envV A) (.call 63 [.sl 3 ps .ro] []) = some (.ret (.s (.bool true)) [])) (h8 : evl (envV A) (.call 63 [.sl 3 qs .ro] []) = some (.ret (.s (.bool true)) []))
    (h9 : evl (envV A) (.call 67 [.sl 3 ps .ro, .sl 3 ys .imm] []) = some (.ret (.sl 3 ps .full) [])) (h10 : evl (envV A) (.call 67 [.sl 3 qs .ro, .sl 3 ys .imm] []) = some (.ret (.sl 3 qs .full) []))
    (h11 : evl (envV A) (.call 65 [.sl 3 ps .full, .sl 3 ps .ro] []) = some (.ret (.s (.bool true)) [])) (h12 : evl (envV A) (.call 65 [.sl 3 qs .full, .sl 3 qs .ro] []) = some (.ret (.s (.bool true)) []))
    (e0 : ps.length = k) (e1 : qs.length = k2) (e2 : 0 + k = k) (e3 : 0 + k2 = k2) (e4 : lcut ps 0 k = ps) (e5 : lcut qs 0 k2 = qs) (e6 : Nat.ble k k = true) (e7 : Nat.ble k2 k2 = true) (e8 : ys.length = k2) (ha : A.eq (.ofNat k2) (.ofNat k2) = true) :
    evl (envV A) (.call 13 [.sl 3 xs .imm, .sl 3 ys .imm] []) = some (.ret (.s (.bool true)) []) := by
  rw [evl_fn (envV A) 13 _ _ (fn := Try.f13) (c := bd13) (lv := lvF13) rfl rfl rfl rfl rfl rfl]
  have hnle := hA.nleE; have hneq := hA.neqE
  have klt := hA.lt; have kle := hA.le; have keq := hA.eq; have knle := hA.nle; have kneq := hA.neq
  generalize lpOf (envV A) 13 bd13 = LP
  generalize evl (envV A) = E at e0 e1 e2 e3 e4 e5 e6 e7 e8 h0 h1 h2 h3 h4 h5 h6 h7 h8 h9 h10 h11 h12 ha ⊢
  obtain ⟨aadd, asub, amul, arem, aquo, awr, ashr, aeq, alt, ale, aseq, aslt, acat, acut, asiz, aat, anle, aneq, afit⟩ := A
  simp only at hnle hneq
  subst hnle hneq
  simp only at klt kle keq knle kneq
  try simp only at h0 h1 h2 h3 h4 h5 h6 h7 h8 h9 h10 h11 h12 ha
  conv at e0 => lhs; cbv
  conv at e1 => lhs; cbv
  conv at e2 => lhs; cbv
  conv at e3 => lhs; cbv
  conv at e4 => lhs; cbv
  conv at e5 => lhs; cbv
  conv at e6 => lhs; cbv
  conv at e7 => lhs; cbv
  conv at e8 => lhs; cbv
  cbv
  rewrite [h0]
  cbv
  rewrite [h1]
  cbv
  rewrite [keq (1) (0)]
  cbv
  rewrite [h2]
  cbv
  rewrite [keq (1) (0)]
  cbv
  rewrite [h3]
  cbv
  rewrite [h4]
  cbv
  rewrite [h5]
  cbv
  rewrite [h6]
  cbv
  rewrite [e0]
  cbv
  rewrite [e2]
  cbv
  rewrite [e4]
  cbv
  rewrite [e6]
  cbv
  rewrite [h7]
  cbv
  rewrite [e1]
  cbv
  rewrite [e3]
  cbv
  rewrite [e5]
  cbv
  rewrite [e7]
  cbv
  rewrite [h8]
  cbv
  rewrite [e0]
  cbv
  rewrite [e2]
  cbv
  rewrite [e4]
  cbv
  rewrite [e6]
  cbv
  rewrite [h9]
  cbv
  rewrite [e0]
  cbv
  rewrite [e2]
  cbv
  rewrite [e4]
  cbv
  rewrite [e6]
  cbv
  rewrite [h11]
  cbv
  rewrite [e1]
  cbv
  rewrite [e3]
  cbv
  rewrite [e5]
  cbv
  rewrite [e7]
  cbv
  rewrite [h10]
  cbv
  rewrite [e1]
  cbv
  rewrite [e3]
  cbv
  rewrite [e5]
  cbv
  rewrite [e7]
  cbv
  rewrite [h12]
  cbv
  rewrite [e1]
  cbv
  rewrite [e8]
  cbv
  rewrite [ha]
  cbv
end
end Go.Va
namespace Go.Va
open Go.Proofs
set_option maxRecDepth 100000
set_option maxHeartbeats 4000000
def apA (x y : AttrT) : Prop := realAr.seq x.1 y.1 = false
def okA (a : AttrT) : Prop := nameP a.1 = true ∧ textP a.2.1 = true
theorem apA_symm {x y : AttrT} (h : apA x y) : apA y x := by
  have h : (x.1.data.toList == y.1.data.toList) = false := h
  show (y.1.data.toList == x.1.data.toList) = false
  rw [BEq.comm]
  exact h
theorem mayR_iff : ∀ (r p : List AttrT), mayR (p ++ r) p.length r = true ↔ (∀ a ∈ r, okA a) ∧ r.Pairwise apA ∧ ∀ x ∈ p, ∀ y ∈ r, apA x y
  | [], p => by simp [mayR]
  | a :: r, p => by
    have ih := mayR_iff r (p ++ [a])
    rw [List.append_assoc] at ih
    simp only [List.cons_append, List.nil_append, List.length_append, List.length_cons, List.length_nil] at ih
    rw [mayR]
    have hb : badAt (p ++ a :: r) p.length a = p.any (fun x => realAr.seq x.1 a.1) := by
      unfold badAt
      rw [List.take_left]
    rw [hb]
    simp only [Bool.and_eq_true, ih, Bool.not_eq_true', List.any_eq_false, List.forall_mem_cons, List.pairwise_cons]
    constructor
    · rintro ⟨⟨⟨h1, h2⟩, h3⟩, h4, h5, h6⟩
      refine ⟨⟨⟨h1, h2⟩, h4⟩, ⟨fun y hy => h6 a (by simp) y hy, h5⟩, fun x hx => ⟨?_, fun y hy => h6 x (by simp [hx]) y hy⟩⟩
      have := h3 x hx
      simpa [apA] using this
    · rintro ⟨⟨⟨h1, h2⟩, h4⟩, ⟨h5, h5'⟩, h6⟩
      refine ⟨⟨⟨h1, h2⟩, fun x hx => ?_⟩, h4, h5', fun x hx y hy => ?_⟩
      · have := (h6 x hx).1
        simpa [apA] using this
      · rcases List.mem_append.1 hx with hx | hx
        · exact (h6 x hx).2 y hy
        · simp at hx
          subst hx
          exact h5 y hy
theorem mayL_iff (l : List AttrT) : mayL l = true ↔ (∀ a ∈ l, okA a) ∧ l.Pairwise apA ∧ l.length ≤ 8 := by
  have := mayR_iff l []
  simp only [List.nil_append, List.length_nil] at this
  unfold mayL
  rw [Bool.and_eq_true, this]
  simp [and_assoc]
theorem hasA_no {os : List AttrT} {a : AttrT} (h : hasA os a = false) : ∀ x ∈ os, apA x a := by
  intro x hx
  unfold hasA at h
  rw [List.any_eq_false] at h
  have := h x hx
  simpa [apA] using this
theorem joinR_pref : ∀ (ws os : List AttrT), ∃ t, joinR os ws = os ++ t ∧ ∀ a ∈ t, a ∈ ws
  | [], os => ⟨[], by simp [joinR], by simp⟩
  | a :: ws, os => by
    rw [joinR]
    cases h : hasA os a with
    | true =>
      obtain ⟨t, h1, h2⟩ := joinR_pref ws os
      exact ⟨t, h1, fun b hb => by simp [h2 b hb]⟩
    | false =>
      obtain ⟨t, h1, h2⟩ := joinR_pref ws (os ++ [a])
      refine ⟨a :: t, by simp only [cond_false]; rw [h1]; simp, fun b hb => ?_⟩
      rcases List.mem_cons.1 hb with rfl | hb
      · simp
      · simp [h2 b hb]
theorem joinR_pair : ∀ (ws os : List AttrT), os.Pairwise apA → (joinR os ws).Pairwise apA
  | [], os, h => h
  | a :: ws, os, h => by
    rw [joinR]
    refine joinR_pair ws _ ?_
    cases hh : hasA os a with
    | true => exact h
    | false =>
      simp only [cond_false]
      rw [List.pairwise_append]
      exact ⟨h, by simp, fun x hx y hy => by simp at hy; subst hy; exact hasA_no hh x hx⟩
theorem joinR_all : ∀ (ws os : List AttrT), (os ++ ws).Pairwise apA → joinR os ws = os ++ ws
  | [], os, _ => by simp [joinR]
  | a :: ws, os, h => by
    rw [joinR]
    have hn : hasA os a = false := by
      unfold hasA
      rw [List.any_eq_false]
      intro x hx
      have := (List.pairwise_append.1 h).2.2 x hx a (by simp)
      simpa [apA] using this
    rw [hn]
    simp only [cond_false]
    rw [joinR_all ws (os ++ [a]) (by simpa using h)]
    simp
theorem mem_keep {b : Bool} {l : List AttrT} {a : AttrT} (h : a ∈ l.filter (keepA b)) : a ∈ l ∧ keepA b a = true := List.mem_filter.1 h
theorem may_join {l m : List AttrT} (hl : mayL l = true) (hm : mayL m = true) : mayL (joinL l m) = true := by
  obtain ⟨a1, a2, a3⟩ := (mayL_iff l).1 hl
  obtain ⟨b1, b2, b3⟩ := (mayL_iff m).1 hm
  rw [mayL_iff]
  unfold joinL
  obtain ⟨t, h1, h2⟩ := joinR_pref (m.filter (keepA false)) (l.filter (keepA true))
  refine ⟨fun a ha => ?_, ?_, by simp; omega⟩
  · have ha := List.mem_of_mem_take ha
    rw [h1] at ha
    rcases List.mem_append.1 ha with ha | ha
    · exact a1 a (mem_keep ha).1
    · exact b1 a (mem_keep (h2 a ha)).1
  · exact (joinR_pair _ _ (a2.sublist List.filter_sublist)).sublist (List.take_sublist _ _)
theorem fil_tt (l : List AttrT) : (l.filter (keepA true)).filter (keepA true) = l.filter (keepA true) := by rw [List.filter_filter]; simp
theorem fil_ft (l : List AttrT) : (l.filter (keepA false)).filter (keepA true) = [] := by
  rw [List.filter_eq_nil_iff]
  intro a ha
  have := (mem_keep ha).2
  rw [keep_false] at this
  rw [keep_true]
  simpa using this
theorem join_again {l m : List AttrT} (hl : mayL l = true) : joinL (joinL l m) m = joinL l m := by
  obtain ⟨a1, a2, a3⟩ := (mayL_iff l).1 hl
  have hlen := fil_len true l
  obtain ⟨t, h1, h2⟩ := joinR_pref (m.filter (keepA false)) (l.filter (keepA true))
  have key : (joinL l m).filter (keepA true) = l.filter (keepA true) := by
    have hz : ∀ n : Nat, (t.take n).filter (keepA true) = [] := by
      intro n
      rw [List.filter_eq_nil_iff]
      intro a ha
      have := (mem_keep (h2 a (List.mem_of_mem_take ha))).2
      rw [keep_false] at this
      rw [keep_true]
      simpa using this
    unfold joinL
    rw [h1, List.take_append, List.take_of_length_le (by omega), List.filter_append, fil_tt, hz, List.append_nil]
  change (joinR ((joinL l m).filter (keepA true)) (m.filter (keepA false))).take 8 = _
  rw [key]
  rfl
theorem keep_not : keepA false = fun a => !(keepA true a) := by
  funext a
  rw [keep_true, keep_false]
theorem new_perm (m : List AttrT) : (newL m).Perm m := by
  unfold newL
  rw [keep_not]
  exact List.filter_append_perm _ _
theorem may_new {m : List AttrT} (hm : mayL m = true) : mayL (newL m) = true := by
  obtain ⟨b1, b2, b3⟩ := (mayL_iff m).1 hm
  have hp := new_perm m
  rw [mayL_iff]
  exact ⟨fun a ha => b1 a (hp.mem_iff.1 ha), (hp.pairwise_iff (fun h => apA_symm h)).2 b2, by rw [hp.length_eq]; exact b3⟩
theorem join_new {m : List AttrT} (hm : mayL m = true) : joinL (newL m) m = newL m := by
  obtain ⟨c1, c2, c3⟩ := (mayL_iff _).1 (may_new hm)
  have key : (newL m).filter (keepA true) = m.filter (keepA true) := by
    unfold newL
    rw [List.filter_append, fil_tt, fil_ft, List.append_nil]
  change (joinR ((newL m).filter (keepA true)) (m.filter (keepA false))).take 8 = _
  rw [key, joinR_all _ _ c2]
  exact List.take_of_length_le c3
theorem attrJoins_law (l m : List AttrT) : evl (envV realAr) (.call 13 [.sl 3 (l.map attrA) .imm, .sl 3 (m.map attrA) .imm] []) = some (.ret (.s (.bool true)) []) := by
  rcases s_few3 l with h1 | ⟨h1, f1, g1⟩
  · exact eq_aj_few1 realAr realAr_ok _ _ s_law03_up h1
  · rcases s_few3 m with h2 | ⟨h2, f2, g2⟩
    · exact eq_aj_few2 realAr realAr_ok _ _ s_law03_up h1 h2
    · have fa : ∀ x : List AttrT, few3 x → fewA x := fun x hx a ha => by have := hx a ha; omega
      have m1 := s_attr_May l .imm (.inr rfl) (by omega) (fa l f1)
      have m2 := s_attr_May m .imm (.inr rfl) (by omega) (fa m f2)
      cases hq : mayL l && mayL m with
      | false => exact eq_aj_no realAr realAr_ok _ _ _ _ s_law03_up h1 h2 m1 m2 hq
      | true =>
        rw [Bool.and_eq_true] at hq
        obtain ⟨q1, q2⟩ := hq
        rw [q1] at m1
        rw [q2] at m2
        have j1 := (mayL_iff _).1 (may_join q1 q2)
        have n1 := (mayL_iff _).1 (may_new q2)
        have hja : ∀ a ∈ joinL l m, a ∈ l ∨ a ∈ m := by
          intro a ha
          obtain ⟨t, e1, e2⟩ := joinR_pref (m.filter (keepA false)) (l.filter (keepA true))
          unfold joinL at ha
          have ha := List.mem_of_mem_take ha
          rw [e1] at ha
          rcases List.mem_append.1 ha with ha | ha
          · exact .inl (mem_keep ha).1
          · exact .inr (mem_keep (e2 a ha)).1
        have fj : fewA (joinL l m) := fun a ha => by
          rcases hja a ha with h | h
          · exact fa l f1 a h
          · exact fa m f2 a h
        have fn : fewA (newL m) := fun a ha => fa m f2 a ((new_perm m).mem_iff.1 ha)
        have m3 := s_attr_May (joinL l m) .ro (.inl rfl) (by omega) fj
        have m4 := s_attr_May (newL m) .ro (.inl rfl) (by omega) fn
        rw [may_join q1 q2] at m3
        rw [may_new q2] at m4
        have k1 := s_attr_Join (joinL l m) m .ro (.inl rfl) (by omega) (by omega)
        rw [join_again q1] at k1
        have k2 := s_attr_Join (newL m) m .ro (.inl rfl) (by omega) (by omega)
        rw [join_new q2] at k2
        have hrefl : ∀ x : List AttrT, sameL x x = true := fun x => by unfold sameL; rw [sameR_refl]; simp
        have sm : ∀ x : List AttrT, x.length ≤ 1000 → evl (envV realAr) (.call 65 [.sl 3 (x.map attrA) .full, .sl 3 (x.map attrA) .ro] []) = some (.ret (.s (.bool true)) []) := fun x hx => by
          have := s_slices_Equal x x .ro .ro (.inl rfl) (.inl rfl) (by omega)
          rw [hrefl] at this
          exact eq_attr_Same_f realAr realAr_ok _ _ x.length x.length true (al_len _) (al_len _) (Nat.zero_add _) (al_cut _) (nble (Nat.le_refl _)) this
        exact eq_aj realAr realAr_ok _ _ ((joinL l m).map attrA) ((newL m).map attrA) (joinL l m).length (newL m).length s_law03_up h1 h2 m1 m2 (s_attr_Join l m .imm (.inr rfl) (by omega) (by omega)) (s_attr_New m (by omega)) m3 m4 k1 k2 (sm _ (by omega)) (sm _ (by omega))
          (al_len _) (al_len _) (Nat.zero_add _) (Nat.zero_add _) (al_cut _) (al_cut _) (nble (Nat.le_refl _)) (nble (Nat.le_refl _)) (by rw [al_len, (new_perm m).length_eq]) (by rw [realAr_ok.eq]; simp)
end Go.Va
namespace Go.Va
open Go.Proofs
set_option maxRecDepth 100000
theorem fn_all : fnT.Forall (fun f fn => Try.prog.funcs[f]? = some fn ∧ (fn.name == "runtime.NumGoroutine") = false) := by
  unfold fnT
  simp only [Tr.Forall]
  and_intros <;> first | trivial | kernel_rfl
theorem env_ok : EnvOk Try.prog (envV realAr) where
  A := rfl
  fn f fn h := Tr.get_of fn_all h
  ty t ty h := Tr.all_get (p := fun t ty => tyChk Try.prog t ty) (by kernel_rfl) h
  mixed := by kernel_rfl
theorem bytes_of {P : Program} {t e : Nat} {y : AV} (h : ArgWf P t y) (hu : P.underlying t = some (.slice e)) (he : P.underlying e = some (.int .u8)) (hc : P.cellsOf e = 1) : ∃ bs : List UInt8, y = .sl 1 (bl bs) .imm ∧ bs.length ≤ 9223372036854775807 := by
  obtain ⟨ys, rfl, hl, hy⟩ := arg_slice h hu
  have key : ∀ y, ArgWf P e y → ∃ b : UInt8, y = .s (.int .u8 (.ofNat b.toNat)) ∧ True := by
    intro y hy
    obtain ⟨n, rfl, hw⟩ := arg_int hy he
    have hn : 0 ≤ n ∧ n ≤ 255 := by
      simpa [Lit.wf, IntKind.min, IntKind.max, IntKind.bits, IntKind.signed] using hw
    refine ⟨UInt8.ofNat n.toNat, ?_, trivial⟩
    have : (UInt8.ofNat n.toNat).toNat = n.toNat := by
      simp
      omega
    rw [this]
    congr 2
    exact (Int.toNat_of_nonneg hn.1).symm
  obtain ⟨bs, rfl, -⟩ := list_map key hy
  rw [hc]
  exact ⟨bs, rfl, by simpa [maxLen] using hl⟩
theorem ins_of {P : Program} {t a b : Nat} {fs : Array Field} {y : AV} (h : ArgWf P t y) (hu : P.underlying t = some (.struct fs)) (hfs : fs.toList.map (fun f => (f.offset, f.type)) = [(0, a), (1, b), (2, b)]) (ha : P.underlying a = some (.int .i64)) (hb : P.underlying b = some .string)
    (hca : P.cellsOf a = 1) (hcb : P.cellsOf b = 1) (hct : P.cellsOf t = 3) : ∃ i : InsT, y = insA i ∧ (i.2.1.size ≤ 9223372036854775807 ∧ i.2.2.size ≤ 9223372036854775807) := by
  obtain ⟨xs, rfl, hl, hf⟩ := arg_struct h hu
  rw [hct] at hl
  match xs, hl with
  | [x, y, z], _ =>
    have hg : ∀ p ∈ fs.toList.map (fun f => (f.offset, f.type)), Wf P p.2 (([x, y, z].drop p.1).take (P.cellsOf p.2)) := by
      intro p hp
      obtain ⟨f, hf1, rfl⟩ := List.mem_map.1 hp
      exact hf f hf1
    rw [hfs] at hg
    have h0 := hg (0, a) (by simp)
    have h1 := hg (1, b) (by simp)
    have h2 := hg (2, b) (by simp)
    simp only [hca, hcb] at h0 h1 h2
    obtain ⟨o, e0, -⟩ := Wf_int h0 ha
    obtain ⟨s, e1, k1⟩ := Wf_str h1 hb
    obtain ⟨t, e2, k2⟩ := Wf_str h2 hb
    simp at e0 e1 e2
    subst e0 e1 e2
    exact ⟨(o, s, t), rfl, k1, k2⟩
theorem insl_of {P : Program} {t e a b : Nat} {fs : Array Field} {y : AV} (h : ArgWf P t y) (ht : P.underlying t = some (.slice e)) (hu : P.underlying e = some (.struct fs)) (hfs : fs.toList.map (fun f => (f.offset, f.type)) = [(0, a), (1, b), (2, b)]) (ha : P.underlying a = some (.int .i64)) (hb : P.underlying b = some .string)
    (hca : P.cellsOf a = 1) (hcb : P.cellsOf b = 1) (hct : P.cellsOf e = 3) : ∃ is : List InsT, y = .sl 3 (is.map insA) .imm ∧ is.length ≤ 9223372036854775807 := by
  obtain ⟨ys, rfl, hl, hy⟩ := arg_slice h ht
  obtain ⟨is, rfl, -⟩ := list_map (fun y h => ins_of h hu hfs ha hb hca hcb hct) hy
  rw [hct]
  exact ⟨is, rfl, by simpa [maxLen] using hl⟩
end Go.Va
namespace Go.Va
open Go.Proofs
set_option maxRecDepth 100000
theorem ext_ok (W : World) : ExtOk { P := Try.prog, w0 := W } (envV realAr) := by
  intro f e he E hE ys O r h
  have key : extT.Forall (fun f e => ∀ (E : Task → Option Res) ys O r, (e ys O).run E = some r → TaskOk { P := Try.prog, w0 := W } (.call f ys O) r) := by
    unfold extT
    simp only [Tr.Forall]
    refine ⟨fun E ys O r h => ?_, ⟨fun E ys O r h => ?_, ⟨fun E ys O r h => ?_, trivial, trivial⟩, trivial⟩, ⟨fun E ys O r h => ?_, trivial, trivial⟩⟩
    · exact load_ok (fn := Try.f99) Try.func99 (by kernel_rfl) (by kernel_rfl) (by kernel_rfl) (by rfl) h
    · exact store_ok (fn := Try.f98) Try.func98 (by kernel_rfl) (by kernel_rfl) (by kernel_rfl) (by rfl) h
    · exact add_ok (fn := Try.f97) Try.func97 (by kernel_rfl) (by kernel_rfl) (by kernel_rfl) (by rfl) h
    · exact clone_ok h
  exact Tr.get_of key he E ys O r h
end Go.Va
namespace Go.Va
open Go.Proofs
set_option maxRecDepth 100000
theorem attr_of {P : Program} {t a b : Nat} {fs : Array Field} {y : AV} (h : ArgWf P t y) (hu : P.underlying t = some (.struct fs)) (hfs : fs.toList.map (fun f => (f.offset, f.type)) = [(0, a), (1, a), (2, b)]) (ha : P.underlying a = some .string) (hb : P.underlying b = some .bool)
    (hca : P.cellsOf a = 1) (hcb : P.cellsOf b = 1) (hct : P.cellsOf t = 3) : ∃ i : AttrT, y = attrA i ∧ True := by
  obtain ⟨xs, rfl, hl, hf⟩ := arg_struct h hu
  rw [hct] at hl
  match xs, hl with
  | [x, y, z], _ =>
    have hg : ∀ p ∈ fs.toList.map (fun f => (f.offset, f.type)), Wf P p.2 (([x, y, z].drop p.1).take (P.cellsOf p.2)) := by
      intro p hp
      obtain ⟨f, hf1, rfl⟩ := List.mem_map.1 hp
      exact hf f hf1
    rw [hfs] at hg
    have h0 := hg (0, a) (by simp)
    have h1 := hg (1, a) (by simp)
    have h2 := hg (2, b) (by simp)
    simp only [hca, hcb] at h0 h1 h2
    obtain ⟨o, e0, -⟩ := Wf_str h0 ha
    obtain ⟨s, e1, -⟩ := Wf_str h1 ha
    obtain ⟨t, e2⟩ := Wf_bool h2 hb
    simp at e0 e1 e2
    subst e0 e1 e2
    exact ⟨(o, s, t), rfl, trivial⟩
theorem attrs_of {P : Program} {t e a b : Nat} {fs : Array Field} {y : AV} (h : ArgWf P t y) (ht : P.underlying t = some (.slice e)) (hu : P.underlying e = some (.struct fs)) (hfs : fs.toList.map (fun f => (f.offset, f.type)) = [(0, a), (1, a), (2, b)]) (ha : P.underlying a = some .string) (hb : P.underlying b = some .bool)
    (hca : P.cellsOf a = 1) (hcb : P.cellsOf b = 1) (hct : P.cellsOf e = 3) : ∃ l : List AttrT, y = .sl 3 (l.map attrA) .imm := by
  obtain ⟨ys, rfl, hl, hy⟩ := arg_slice h ht
  obtain ⟨l, rfl, -⟩ := list_map (fun y h => attr_of h hu hfs ha hb hca hcb hct) hy
  rw [hct]
  exact ⟨l, rfl⟩
end Go.Va
