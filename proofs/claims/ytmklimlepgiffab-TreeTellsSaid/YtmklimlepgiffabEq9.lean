/- The functions that the statement reaches, by equations: no statement of its own. -/
import Derived.Test.YtmklimlepgiffabEq8
set_option linter.unusedVariables false
set_option linter.unusedSimpArgs false
set_option linter.unusedSectionVars false
namespace Go.Va
open Go.Proofs
set_option maxRecDepth 100000
set_option maxHeartbeats 4000000
section
variable (A : Ar) (hA : ArOk A) (tag text key : ByteArray) (vs ks : List AV) (n m i j : Nat) (tag2 text2 key2 : ByteArray) (vs2 ks2 : List AV) (tag3 text3 key3 : ByteArray) (vs3 ks3 : List AV) (tag4 text4 key4 : ByteArray) (vs4 ks4 : List AV) (ma mk q : Bool)
include hA
theorem eq_tree_Same (e0 : ks.length = n) (e1 : vs.length = m) (h1 : evl (envV A) (.call 76 [.sl 3 vs .imm, .sl 3 vs2 .imm] []) = some (.ret (.s (.bool ma)) []))
    (h2 : evl (envV A) (.call 77 [.sl 5 ks .imm, .sl 5 ks2 .imm, .fn 31 [] []] []) = some (.ret (.s (.bool mk)) [])) :
    evl (envV A) (.call 31 [.agg (trC tag text key vs ks), .agg (trC tag2 text2 key2 vs2 ks2)] []) = some (.ret (.s (.bool (bif A.seq tag tag2 then (bif A.seq text text2 then (bif A.seq key key2 then (bif ma then mk else false) else false) else false) else false))) []) := by
  unfold trC
  rw [evl_fn (envV A) 31 _ _ (fn := Try.f31) (c := bd31) (lv := lvF31) rfl rfl rfl rfl rfl rfl]
  have hnle := hA.nleE; have hneq := hA.neqE
  have klt := hA.lt; have kle := hA.le; have keq := hA.eq; have knle := hA.nle; have kneq := hA.neq
  generalize lpOf (envV A) 31 bd31 = LP
  generalize evl (envV A) = E at e0 e1 h1 h2 ⊢
  obtain ⟨aadd, asub, amul, arem, aquo, awr, ashr, aeq, alt, ale, aseq, aslt, acat, acut, asiz, aat, anle, aneq, afit⟩ := A
  simp only at hnle hneq
  subst hnle hneq
  simp only at klt kle keq knle kneq
  try simp only at h1 h2
  conv at e0 => lhs; cbv
  conv at e1 => lhs; cbv
  cbv
  cases c1 : aseq tag tag2
  · cbv
  · cbv
    cases c2 : aseq text text2
    · cbv
    · cbv
      cases c3 : aseq key key2
      · cbv
      · cbv
        rewrite [h1]
        cbv
        cases ma
        · cbv
        · cbv
          rewrite [h2]
          cbv
theorem lp_tree_eqf {r : Option Res} (e0 : ks.length = n) (e1 : lget ks i = some (.agg (trC tag text key vs ks3))) (e2 : Nat.ble (Nat.succ i) n = true) (e3 : lget ks2 i = some (.agg (trC tag2 text2 key2 vs2 ks4))) (e4 : ks2.length = n) (h1 : A.lt (.ofNat i) (.ofNat n) = true) (h2 : A.add .i64 (.ofNat i) 1 = .ofNat (Nat.succ i))
    (h3 : evl (envV A) (.call 31 [.agg (trC tag text key vs ks3), .agg (trC tag2 text2 key2 vs2 ks4)] []) = some (.ret (.s (.bool q)) []))
    (hr : lpOf (envV A) 77 bd77 4 { n := 32, k := 0, fr := [(1, .sl 5 ks2 .imm), (2, .fn 31 [] []), (15, .sl 5 ks .imm), (16, .s (.int .i64 (.ofNat n))), (17, .s (.int .i64 (.ofNat (Nat.succ i))))], O := [] } = r) :
    lpOf (envV A) 77 bd77 4 { n := 32, k := 0, fr := [(1, .sl 5 ks2 .imm), (2, .fn 31 [] []), (15, .sl 5 ks .imm), (16, .s (.int .i64 (.ofNat n))), (17, .s (.int .i64 (.ofNat i)))], O := [] } = bif q then r else some (.code .ret { n := 32, k := 0, fr := [(6, .s (.bool false))], O := [] }) := by
  unfold trC at e1 e3 h3
  rw [lp_step (envV A) 77 (c0 := bd77) (lv := lvF77) rfl rfl]
  have hnle := hA.nleE; have hneq := hA.neqE
  have klt := hA.lt; have kle := hA.le; have keq := hA.eq; have knle := hA.nle; have kneq := hA.neq
  rw [lp_split (lpOf (envV A) 77 bd77) 4]
  generalize lpOf (envV A) 77 bd77 4 = L4 at e0 e1 e2 e3 e4 h1 h2 h3 hr ⊢
  generalize lpOf (envV A) 77 bd77 = LP
  generalize evl (envV A) = E at e0 e1 e2 e3 e4 h1 h2 h3 hr ⊢
  obtain ⟨aadd, asub, amul, arem, aquo, awr, ashr, aeq, alt, ale, aseq, aslt, acat, acut, asiz, aat, anle, aneq, afit⟩ := A
  simp only at hnle hneq
  subst hnle hneq
  simp only at klt kle keq knle kneq
  try simp only at h1 h2 h3 hr
  conv at e0 => lhs; cbv
  conv at e1 => lhs; cbv
  conv at e2 => lhs; cbv
  conv at e3 => lhs; cbv
  conv at e4 => lhs; cbv
  cbv
  rewrite [h1]
  cbv
  rewrite [e1]
  cbv
  rewrite [e3]
  cbv
  rewrite [h3]
  cbv
  cases q
  · cbv
  · cbv
    rewrite [h2]
    cbv
    rewrite [hr]
    cbv
theorem lp_tree_eqf_end (h1 : A.lt (.ofNat i) (.ofNat n) = false) :
    lpOf (envV A) 77 bd77 4 { n := 32, k := 0, fr := [(1, .sl 5 ks2 .imm), (2, .fn 31 [] []), (15, .sl 5 ks .imm), (16, .s (.int .i64 (.ofNat n))), (17, .s (.int .i64 (.ofNat i)))], O := [] } = some (.code (.exit 0) { n := 32, k := 0, fr := [(1, .sl 5 ks2 .imm), (2, .fn 31 [] []), (15, .sl 5 ks .imm), (16, .s (.int .i64 (.ofNat n))), (17, .s (.int .i64 (.ofNat i))), (18, .s (.bool false))], O := [] }) := by
  rw [lp_step (envV A) 77 (c0 := bd77) (lv := lvF77) rfl rfl]
  have hnle := hA.nleE; have hneq := hA.neqE
  have klt := hA.lt; have kle := hA.le; have keq := hA.eq; have knle := hA.nle; have kneq := hA.neq
  generalize lpOf (envV A) 77 bd77 = LP
  generalize evl (envV A) = E at h1 ⊢
  obtain ⟨aadd, asub, amul, arem, aquo, awr, ashr, aeq, alt, ale, aseq, aslt, acat, acut, asiz, aat, anle, aneq, afit⟩ := A
  simp only at hnle hneq
  subst hnle hneq
  simp only at klt kle keq knle kneq
  try simp only at h1
  cbv
  rewrite [h1]
  cbv
theorem eq_tree_eqf_ne (e0 : ks.length = n) (e1 : ks2.length = m) (h1 : A.eq (.ofNat n) (.ofNat m) = false) :
    evl (envV A) (.call 77 [.sl 5 ks .imm, .sl 5 ks2 .imm, .fn 31 [] []] []) = some (.ret (.s (.bool false)) []) := by
  rw [evl_fn (envV A) 77 _ _ (fn := Try.f77) (c := bd77) (lv := lvF77) rfl rfl rfl rfl rfl rfl]
  have hnle := hA.nleE; have hneq := hA.neqE
  have klt := hA.lt; have kle := hA.le; have keq := hA.eq; have knle := hA.nle; have kneq := hA.neq
  generalize lpOf (envV A) 77 bd77 = LP
  generalize evl (envV A) = E at e0 e1 h1 ⊢
  obtain ⟨aadd, asub, amul, arem, aquo, awr, ashr, aeq, alt, ale, aseq, aslt, acat, acut, asiz, aat, anle, aneq, afit⟩ := A
  simp only at hnle hneq
  subst hnle hneq
  simp only at klt kle keq knle kneq
  try simp only at h1
  conv at e0 => lhs; cbv
  conv at e1 => lhs; cbv
  cbv
  rewrite [e0]
  cbv
  rewrite [e1]
  cbv
  rewrite [h1]
  cbv
theorem eq_tree_eqf (e0 : ks.length = n) (e1 : ks2.length = m) (h1 : A.eq (.ofNat n) (.ofNat m) = true)
    (h2 : lpOf (envV A) 77 bd77 4 { n := 32, k := 0, fr := [(1, .sl 5 ks2 .imm), (2, .fn 31 [] []), (15, .sl 5 ks .imm), (16, .s (.int .i64 (.ofNat n))), (17, .s (.int .i64 0))], O := [] } = bif q then some (.code (.exit 0) { n := 32, k := 0, fr := [(1, .sl 5 ks2 .imm), (2, .fn 31 [] []), (15, .sl 5 ks .imm), (16, .s (.int .i64 (.ofNat n))), (17, .s (.int .i64 (.ofNat i))), (18, .s (.bool false))], O := [] } ) else some (.code .ret { n := 32, k := 0, fr := [(6, .s (.bool false))], O := [] })) :
    evl (envV A) (.call 77 [.sl 5 ks .imm, .sl 5 ks2 .imm, .fn 31 [] []] []) = some (.ret (.s (.bool q)) []) := by
  cases q <;> simp only [cond_true, cond_false] at h2
  ·
    rw [evl_fn (envV A) 77 _ _ (fn := Try.f77) (c := bd77) (lv := lvF77) rfl rfl rfl rfl rfl rfl]
    have hnle := hA.nleE; have hneq := hA.neqE
    have klt := hA.lt; have kle := hA.le; have keq := hA.eq; have knle := hA.nle; have kneq := hA.neq
    rw [lp_split (lpOf (envV A) 77 bd77) 4]
    generalize lpOf (envV A) 77 bd77 4 = L4 at e0 e1 h1 h2 ⊢
    generalize lpOf (envV A) 77 bd77 = LP
    generalize evl (envV A) = E at e0 e1 h1 h2 ⊢
    obtain ⟨aadd, asub, amul, arem, aquo, awr, ashr, aeq, alt, ale, aseq, aslt, acat, acut, asiz, aat, anle, aneq, afit⟩ := A
    simp only at hnle hneq
    subst hnle hneq
    simp only at klt kle keq knle kneq
    try simp only at h1 h2
    conv at e0 => lhs; cbv
    conv at e1 => lhs; cbv
    cbv
    rewrite [e0]
    cbv
    rewrite [e1]
    cbv
    rewrite [h1]
    cbv
    rewrite [e0]
    cbv
    rewrite [h2]
    cbv
  ·
    rw [evl_fn (envV A) 77 _ _ (fn := Try.f77) (c := bd77) (lv := lvF77) rfl rfl rfl rfl rfl rfl]
    have hnle := hA.nleE; have hneq := hA.neqE
    have klt := hA.lt; have kle := hA.le; have keq := hA.eq; have knle := hA.nle; have kneq := hA.neq
    rw [lp_split (lpOf (envV A) 77 bd77) 4]
    generalize lpOf (envV A) 77 bd77 4 = L4 at e0 e1 h1 h2 ⊢
    generalize lpOf (envV A) 77 bd77 = LP
    generalize evl (envV A) = E at e0 e1 h1 h2 ⊢
    obtain ⟨aadd, asub, amul, arem, aquo, awr, ashr, aeq, alt, ale, aseq, aslt, acat, acut, asiz, aat, anle, aneq, afit⟩ := A
    simp only at hnle hneq
    subst hnle hneq
    simp only at klt kle keq knle kneq
    try simp only at h1 h2
    conv at e0 => lhs; cbv
    conv at e1 => lhs; cbv
    cbv
    rewrite [e0]
    cbv
    rewrite [e1]
    cbv
    rewrite [h1]
    cbv
    rewrite [e0]
    cbv
    rewrite [h2]
    cbv
theorem lp_ref08_Same {r : Option Res} (e0 : ks.length = n) (e1 : lget ks i = some (.agg (trC tag3 text3 key3 vs3 ks3))) (e2 : Nat.ble (Nat.succ i) n = true) (e3 : lget ks2 i = some (.agg (trC tag4 text4 key4 vs4 ks4))) (e4 : ks2.length = n) (h1 : A.lt (.ofNat i) (.ofNat n) = true) (h2 : A.add .i64 (.ofNat i) 1 = .ofNat (Nat.succ i))
    (h3 : evl (envV A) (.call 32 [.agg (trC tag3 text3 key3 vs3 ks3), .agg (trC tag4 text4 key4 vs4 ks4)] []) = some (.ret (.s (.bool q)) []))
    (hr : lpOf (envV A) 32 bd32 5 { n := 65, k := 0, fr := [(2, .ptr 0 0), (3, .ptr 1 0), (6, .s (.int .i64 (.ofNat (Nat.succ i))))], O := [trC tag text key vs ks, trC tag2 text2 key2 vs2 ks2] } = r) :
    lpOf (envV A) 32 bd32 5 { n := 65, k := 0, fr := [(2, .ptr 0 0), (3, .ptr 1 0), (6, .s (.int .i64 (.ofNat i)))], O := [trC tag text key vs ks, trC tag2 text2 key2 vs2 ks2] } = bif q then r else some (.code .ret { n := 65, k := 0, fr := [(4, .s (.bool false))], O := [] }) := by
  unfold trC at e1 e3 h3 hr ⊢
  rw [lp_step (envV A) 32 (c0 := bd32) (lv := lvF32) rfl rfl]
  have hnle := hA.nleE; have hneq := hA.neqE
  have klt := hA.lt; have kle := hA.le; have keq := hA.eq; have knle := hA.nle; have kneq := hA.neq
  rw [lp_split (lpOf (envV A) 32 bd32) 5]
  generalize lpOf (envV A) 32 bd32 5 = L5 at e0 e1 e2 e3 e4 h1 h2 h3 hr ⊢
  generalize lpOf (envV A) 32 bd32 = LP
  generalize evl (envV A) = E at e0 e1 e2 e3 e4 h1 h2 h3 hr ⊢
  obtain ⟨aadd, asub, amul, arem, aquo, awr, ashr, aeq, alt, ale, aseq, aslt, acat, acut, asiz, aat, anle, aneq, afit⟩ := A
  simp only at hnle hneq
  subst hnle hneq
  simp only at klt kle keq knle kneq
  try simp only at h1 h2 h3 hr
  conv at e0 => lhs; cbv
  conv at e1 => lhs; cbv
  conv at e2 => lhs; cbv
  conv at e3 => lhs; cbv
  conv at e4 => lhs; cbv
  cbv
  rewrite [e0]
  cbv
  rewrite [h1]
  cbv
  rewrite [e1]
  cbv
  rewrite [e3]
  cbv
  rewrite [h3]
  cbv
  cases q
  · cbv
  · cbv
    rewrite [h2]
    cbv
    rewrite [hr]
    cbv
theorem lp_ref08_Same_end (e0 : ks.length = n) (h1 : A.lt (.ofNat i) (.ofNat n) = false) :
    lpOf (envV A) 32 bd32 5 { n := 65, k := 0, fr := [(2, .ptr 0 0), (3, .ptr 1 0), (6, .s (.int .i64 (.ofNat i)))], O := [trC tag text key vs ks, trC tag2 text2 key2 vs2 ks2] } = some (.code (.exit 0) { n := 65, k := 0, fr := [(2, .ptr 0 0), (3, .ptr 1 0), (6, .s (.int .i64 (.ofNat i))), (49, .s (.bool false))], O := [trC tag text key vs ks, trC tag2 text2 key2 vs2 ks2] }) := by
  unfold trC
  rw [lp_step (envV A) 32 (c0 := bd32) (lv := lvF32) rfl rfl]
  have hnle := hA.nleE; have hneq := hA.neqE
  have klt := hA.lt; have kle := hA.le; have keq := hA.eq; have knle := hA.nle; have kneq := hA.neq
  generalize lpOf (envV A) 32 bd32 = LP
  generalize evl (envV A) = E at e0 h1 ⊢
  obtain ⟨aadd, asub, amul, arem, aquo, awr, ashr, aeq, alt, ale, aseq, aslt, acat, acut, asiz, aat, anle, aneq, afit⟩ := A
  simp only at hnle hneq
  subst hnle hneq
  simp only at klt kle keq knle kneq
  try simp only at h1
  conv at e0 => lhs; cbv
  cbv
  rewrite [e0]
  cbv
  rewrite [h1]
  cbv
theorem eq_ref08_Same_ne (e0 : ks.length = n) (e1 : ks2.length = m) (h1 : evl (envV A) (.call 78 [.sl 3 vs .imm, .sl 3 vs2 .imm] []) = some (.ret (.s (.bool ma)) []))
    (h2 : (bif A.seq tag tag2 then (bif A.seq text text2 then (bif A.seq key key2 then (bif ma then A.eq (.ofNat n) (.ofNat m) else false) else false) else false) else false) = false) :
    evl (envV A) (.call 32 [.agg (trC tag text key vs ks), .agg (trC tag2 text2 key2 vs2 ks2)] []) = some (.ret (.s (.bool false)) []) := by
  unfold trC
  cases q0 : ma with
  | false =>
    subst q0
    clear h2
    rw [evl_fn (envV A) 32 _ _ (fn := Try.f32) (c := bd32) (lv := lvF32) rfl rfl rfl rfl rfl rfl]
    have hnle := hA.nleE; have hneq := hA.neqE
    have klt := hA.lt; have kle := hA.le; have keq := hA.eq; have knle := hA.nle; have kneq := hA.neq
    generalize lpOf (envV A) 32 bd32 = LP
    generalize evl (envV A) = E at e0 e1 h1 ⊢
    obtain ⟨aadd, asub, amul, arem, aquo, awr, ashr, aeq, alt, ale, aseq, aslt, acat, acut, asiz, aat, anle, aneq, afit⟩ := A
    simp only at hnle hneq
    subst hnle hneq
    simp only at klt kle keq knle kneq
    try simp only at h1
    conv at e0 => lhs; cbv
    conv at e1 => lhs; cbv
    cbv
    rewrite [h1]
    cbv
  | true =>
    subst q0
    cases q1 : A.seq tag tag2 with
    | false =>
      clear h2
      rw [evl_fn (envV A) 32 _ _ (fn := Try.f32) (c := bd32) (lv := lvF32) rfl rfl rfl rfl rfl rfl]
      have hnle := hA.nleE; have hneq := hA.neqE
      have klt := hA.lt; have kle := hA.le; have keq := hA.eq; have knle := hA.nle; have kneq := hA.neq
      generalize lpOf (envV A) 32 bd32 = LP
      generalize evl (envV A) = E at e0 e1 h1 q1 ⊢
      obtain ⟨aadd, asub, amul, arem, aquo, awr, ashr, aeq, alt, ale, aseq, aslt, acat, acut, asiz, aat, anle, aneq, afit⟩ := A
      simp only at hnle hneq
      subst hnle hneq
      simp only at klt kle keq knle kneq
      try simp only at h1 q1
      conv at e0 => lhs; cbv
      conv at e1 => lhs; cbv
      cbv
      rewrite [h1]
      cbv
      rewrite [q1]
      cbv
    | true =>
      cases q2 : A.seq text text2 with
      | false =>
        clear h2
        rw [evl_fn (envV A) 32 _ _ (fn := Try.f32) (c := bd32) (lv := lvF32) rfl rfl rfl rfl rfl rfl]
        have hnle := hA.nleE; have hneq := hA.neqE
        have klt := hA.lt; have kle := hA.le; have keq := hA.eq; have knle := hA.nle; have kneq := hA.neq
        generalize lpOf (envV A) 32 bd32 = LP
        generalize evl (envV A) = E at e0 e1 h1 q1 q2 ⊢
        obtain ⟨aadd, asub, amul, arem, aquo, awr, ashr, aeq, alt, ale, aseq, aslt, acat, acut, asiz, aat, anle, aneq, afit⟩ := A
        simp only at hnle hneq
        subst hnle hneq
        simp only at klt kle keq knle kneq
        try simp only at h1 q1 q2
        conv at e0 => lhs; cbv
        conv at e1 => lhs; cbv
        cbv
        rewrite [h1]
        cbv
        rewrite [q1]
        cbv
        rewrite [q2]
        cbv
      | true =>
        cases q3 : A.seq key key2 with
        | false =>
          clear h2
          rw [evl_fn (envV A) 32 _ _ (fn := Try.f32) (c := bd32) (lv := lvF32) rfl rfl rfl rfl rfl rfl]
          have hnle := hA.nleE; have hneq := hA.neqE
          have klt := hA.lt; have kle := hA.le; have keq := hA.eq; have knle := hA.nle; have kneq := hA.neq
          generalize lpOf (envV A) 32 bd32 = LP
          generalize evl (envV A) = E at e0 e1 h1 q1 q2 q3 ⊢
          obtain ⟨aadd, asub, amul, arem, aquo, awr, ashr, aeq, alt, ale, aseq, aslt, acat, acut, asiz, aat, anle, aneq, afit⟩ := A
          simp only at hnle hneq
          subst hnle hneq
          simp only at klt kle keq knle kneq
          try simp only at h1 q1 q2 q3
          conv at e0 => lhs; cbv
          conv at e1 => lhs; cbv
          cbv
          rewrite [h1]
          cbv
          rewrite [q1]
          cbv
          rewrite [q2]
          cbv
          rewrite [q3]
          cbv
        | true =>
          rw [q1, q2, q3] at h2
          simp only [cond_true] at h2
          rw [evl_fn (envV A) 32 _ _ (fn := Try.f32) (c := bd32) (lv := lvF32) rfl rfl rfl rfl rfl rfl]
          have hnle := hA.nleE; have hneq := hA.neqE
          have klt := hA.lt; have kle := hA.le; have keq := hA.eq; have knle := hA.nle; have kneq := hA.neq
          generalize lpOf (envV A) 32 bd32 = LP
          generalize evl (envV A) = E at e0 e1 h1 h2 q1 q2 q3 ⊢
          obtain ⟨aadd, asub, amul, arem, aquo, awr, ashr, aeq, alt, ale, aseq, aslt, acat, acut, asiz, aat, anle, aneq, afit⟩ := A
          simp only at hnle hneq
          subst hnle hneq
          simp only at klt kle keq knle kneq
          try simp only at h1 h2 q1 q2 q3
          conv at e0 => lhs; cbv
          conv at e1 => lhs; cbv
          cbv
          rewrite [h1]
          cbv
          rewrite [q1]
          cbv
          rewrite [q2]
          cbv
          rewrite [q3]
          cbv
          rewrite [e0]
          cbv
          rewrite [e1]
          cbv
          rewrite [h2]
          cbv
theorem eq_ref08_Same (e0 : ks.length = n) (e1 : ks2.length = m) (h1 : evl (envV A) (.call 78 [.sl 3 vs .imm, .sl 3 vs2 .imm] []) = some (.ret (.s (.bool true)) [])) (h3 : A.seq tag tag2 = true) (h4 : A.seq text text2 = true) (h5 : A.seq key key2 = true) (h6 : A.eq (.ofNat n) (.ofNat m) = true)
    (h2 : lpOf (envV A) 32 bd32 5 { n := 65, k := 0, fr := [(2, .ptr 0 0), (3, .ptr 1 0), (6, .s (.int .i64 0))], O := [trC tag text key vs ks, trC tag2 text2 key2 vs2 ks2] } = bif q then some (.code (.exit 0) { n := 65, k := 0, fr := [(2, .ptr 0 0), (3, .ptr 1 0), (6, .s (.int .i64 (.ofNat i))), (49, .s (.bool false))], O := [trC tag text key vs ks, trC tag2 text2 key2 vs2 ks2] }) else some (.code .ret { n := 65, k := 0, fr := [(4, .s (.bool false))], O := [] })) :
    evl (envV A) (.call 32 [.agg (trC tag text key vs ks), .agg (trC tag2 text2 key2 vs2 ks2)] []) = some (.ret (.s (.bool q)) []) := by
  unfold trC at h2 ⊢
  cases q <;> simp only [cond_true, cond_false] at h2
  ·
    rw [evl_fn (envV A) 32 _ _ (fn := Try.f32) (c := bd32) (lv := lvF32) rfl rfl rfl rfl rfl rfl]
    have hnle := hA.nleE; have hneq := hA.neqE
    have klt := hA.lt; have kle := hA.le; have keq := hA.eq; have knle := hA.nle; have kneq := hA.neq
    rw [lp_split (lpOf (envV A) 32 bd32) 5]
    generalize lpOf (envV A) 32 bd32 5 = L5 at e0 e1 h1 h2 h3 h4 h5 h6 ⊢
    generalize lpOf (envV A) 32 bd32 = LP
    generalize evl (envV A) = E at e0 e1 h1 h2 h3 h4 h5 h6 ⊢
    obtain ⟨aadd, asub, amul, arem, aquo, awr, ashr, aeq, alt, ale, aseq, aslt, acat, acut, asiz, aat, anle, aneq, afit⟩ := A
    simp only at hnle hneq
    subst hnle hneq
    simp only at klt kle keq knle kneq
    try simp only at h1 h2 h3 h4 h5 h6
    conv at e0 => lhs; cbv
    conv at e1 => lhs; cbv
    cbv
    rewrite [h1]
    cbv
    rewrite [h3]
    cbv
    rewrite [h4]
    cbv
    rewrite [h5]
    cbv
    rewrite [e0]
    cbv
    rewrite [e1]
    cbv
    rewrite [h6]
    cbv
    rewrite [h2]
    cbv
  ·
    rw [evl_fn (envV A) 32 _ _ (fn := Try.f32) (c := bd32) (lv := lvF32) rfl rfl rfl rfl rfl rfl]
    have hnle := hA.nleE; have hneq := hA.neqE
    have klt := hA.lt; have kle := hA.le; have keq := hA.eq; have knle := hA.nle; have kneq := hA.neq
    rw [lp_split (lpOf (envV A) 32 bd32) 5]
    generalize lpOf (envV A) 32 bd32 5 = L5 at e0 e1 h1 h2 h3 h4 h5 h6 ⊢
    generalize lpOf (envV A) 32 bd32 = LP
    generalize evl (envV A) = E at e0 e1 h1 h2 h3 h4 h5 h6 ⊢
    obtain ⟨aadd, asub, amul, arem, aquo, awr, ashr, aeq, alt, ale, aseq, aslt, acat, acut, asiz, aat, anle, aneq, afit⟩ := A
    simp only at hnle hneq
    subst hnle hneq
    simp only at klt kle keq knle kneq
    try simp only at h1 h2 h3 h4 h5 h6
    conv at e0 => lhs; cbv
    conv at e1 => lhs; cbv
    cbv
    rewrite [h1]
    cbv
    rewrite [h3]
    cbv
    rewrite [h4]
    cbv
    rewrite [h5]
    cbv
    rewrite [e0]
    cbv
    rewrite [e1]
    cbv
    rewrite [h6]
    cbv
    rewrite [h2]
    cbv
end
end Go.Va
