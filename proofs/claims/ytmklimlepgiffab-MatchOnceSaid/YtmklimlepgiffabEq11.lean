/- The functions that the statement reaches, by equations: no statement of its own. -/
import Derived.Test.YtmklimlepgiffabEq10
set_option linter.unusedVariables false
set_option linter.unusedSimpArgs false
set_option linter.unusedSectionVars false
namespace Go.Va
open Go.Proofs
set_option maxRecDepth 100000
set_option maxHeartbeats 4000000
def oldC (a b : ByteArray) : List AV := [.s (.string a), .s (.string b)]
def stIf (olds ls : List AV) (kd : Int) (tag key text : ByteArray) (ats ks : List AV) (n i : Nat) : St := { n := 19, k := 2, fr := [(0, .sl 1 ls .ro), (1, .fn 111 [] [.ptr 0 0, .ptr 1 0]), (7, .s (.int .i64 (.ofNat n))), (8, .s (.int .i64 (.ofNat i)))], O := [[.sl 2 olds .imm], wC .imm kd tag key text ats ks] }
def stIfe (olds ls : List AV) (kd : Int) (tag key text : ByteArray) (ats ks : List AV) (n i : Nat) : St := { n := 19, k := 2, fr := [(0, .sl 1 ls .ro), (1, .fn 111 [] [.ptr 0 0, .ptr 1 0]), (7, .s (.int .i64 (.ofNat n))), (8, .s (.int .i64 (.ofNat i))), (9, .s (.bool false))], O := [[.sl 2 olds .imm], wC .imm kd tag key text ats ks] }
def stIfr (olds : List AV) (kd : Int) (tag key text : ByteArray) (ats ks : List AV) (i : Nat) : St := { n := 19, k := 2, fr := [(4, .s (.int .i64 (.ofNat i)))], O := [[.sl 2 olds .imm], wC .imm kd tag key text ats ks] }
section
variable (A : Ar) (hA : ArOk A) (olds ls ats ks : List AV) (n m k j i : Nat) (kd z : Int) (tag key text a b : ByteArray) (s : Bool)
include hA
theorem eq_cl (e3 : olds.length = m) (e4 : Nat.ble (Nat.succ k) m = true) (e5 : lget olds k = some (.agg [.s (.string a), .s (.string b)])) :
    evl (envV A) (.call 111 [.s (.int .i64 (.ofNat k)), .ptr 0 0, .ptr 1 0] [[.sl 2 olds .imm], wC .imm kd tag key text ats ks]) = some (.ret (.s (.bool (A.seq a tag && A.seq b key))) [[.sl 2 olds .imm], wC .imm kd tag key text ats ks]) := by
  unfold wC
  rw [evl_fn (envV A) 111 _ _ (fn := Try.f111) (c := bd111) (lv := lvF111) rfl rfl rfl rfl rfl rfl]
  have hnle := hA.nleE; have hneq := hA.neqE
  have klt := hA.lt; have kle := hA.le; have keq := hA.eq; have knle := hA.nle; have kneq := hA.neq
  generalize lpOf (envV A) 111 bd111 = LP
  generalize evl (envV A) = E at e3 e4 e5 ⊢
  obtain ⟨aadd, asub, amul, arem, aquo, awr, ashr, aeq, alt, ale, aseq, aslt, acat, acut, asiz, aat, anle, aneq, afit⟩ := A
  simp only at hnle hneq
  subst hnle hneq
  simp only at klt kle keq knle kneq
  conv at e3 => lhs; cbv
  conv at e4 => lhs; cbv
  conv at e5 => lhs; cbv
  cbv
  rewrite [e5]
  cbv
  cases c1 : aseq a tag
  · cbv
  · cbv
    cases c2 : aseq b key
    · cbv
    · cbv
theorem lp_if_on {r : Option Res} (e0 : ls.length = n) (e1 : lget ls i = some (.s (.int .i64 (.ofNat k)))) (e2 : Nat.ble (Nat.succ i) n = true) (h1 : A.lt (.ofNat i) (.ofNat n) = true) (h2 : A.add .i64 (.ofNat i) 1 = .ofNat (Nat.succ i))
    (h3 : evl (envV A) (.call 111 [.s (.int .i64 (.ofNat k)), .ptr 0 0, .ptr 1 0] [[.sl 2 olds .imm], wC .imm kd tag key text ats ks]) = some (.ret (.s (.bool s)) [[.sl 2 olds .imm], wC .imm kd tag key text ats ks]))
    (hr : lpOf (envV A) 110 bd110 2 (stIf olds ls kd tag key text ats ks n (Nat.succ i)) = r) :
    lpOf (envV A) 110 bd110 2 (stIf olds ls kd tag key text ats ks n i) = bif s then some (.code .ret (stIfr olds kd tag key text ats ks i)) else r := by
  unfold stIf wC at hr ⊢
  unfold stIfr wC
  unfold wC at h3
  rw [lp_step (envV A) 110 (c0 := bd110) (lv := lvF110) rfl rfl]
  have hnle := hA.nleE; have hneq := hA.neqE
  have klt := hA.lt; have kle := hA.le; have keq := hA.eq; have knle := hA.nle; have kneq := hA.neq
  rw [lp_split (lpOf (envV A) 110 bd110) 2]
  generalize lpOf (envV A) 110 bd110 2 = L2 at e0 e1 e2 h1 h2 h3 hr ⊢
  generalize lpOf (envV A) 110 bd110 = LP
  generalize evl (envV A) = E at e0 e1 e2 h1 h2 h3 hr ⊢
  obtain ⟨aadd, asub, amul, arem, aquo, awr, ashr, aeq, alt, ale, aseq, aslt, acat, acut, asiz, aat, anle, aneq, afit⟩ := A
  simp only at hnle hneq
  subst hnle hneq
  simp only at klt kle keq knle kneq
  try simp only at h1 h2 h3 hr
  conv at e0 => lhs; cbv
  conv at e1 => lhs; cbv
  conv at e2 => lhs; cbv
  cbv
  rewrite [h1]
  cbv
  rewrite [e1]
  cbv
  rewrite [h3]
  cbv
  cases s
  · cbv
    rewrite [h2]
    cbv
    rewrite [hr]
    cbv
  · cbv
theorem lp_if_end (h1 : A.lt (.ofNat i) (.ofNat n) = false) :
    lpOf (envV A) 110 bd110 2 (stIf olds ls kd tag key text ats ks n i) = some (.code (.exit 0) (stIfe olds ls kd tag key text ats ks n i)) := by
  unfold stIf stIfe wC
  rw [lp_step (envV A) 110 (c0 := bd110) (lv := lvF110) rfl rfl]
  have hnle := hA.nleE; have hneq := hA.neqE
  have klt := hA.lt; have kle := hA.le; have keq := hA.eq; have knle := hA.nle; have kneq := hA.neq
  generalize lpOf (envV A) 110 bd110 = LP
  generalize evl (envV A) = E at h1 ⊢
  obtain ⟨aadd, asub, amul, arem, aquo, awr, ashr, aeq, alt, ale, aseq, aslt, acat, acut, asiz, aat, anle, aneq, afit⟩ := A
  simp only at hnle hneq
  subst hnle hneq
  simp only at klt kle keq knle kneq
  try simp only at h1
  cbv
  rewrite [h1]
  cbv
theorem eq_if_hit (e0 : ls.length = n) (h1 : lpOf (envV A) 110 bd110 2 (stIf olds ls kd tag key text ats ks n 0) = some (.code .ret (stIfr olds kd tag key text ats ks i))) :
    evl (envV A) (.call 110 [.sl 1 ls .ro, .fn 111 [] [.ptr 0 0, .ptr 1 0]] [[.sl 2 olds .imm], wC .imm kd tag key text ats ks]) = some (.ret (.s (.int .i64 (.ofNat i))) [[.sl 2 olds .imm], wC .imm kd tag key text ats ks]) := by
  unfold stIf stIfr wC at h1
  unfold wC
  simp only [show Int.ofNat 0 = 0 from rfl] at h1
  rw [evl_fn (envV A) 110 _ _ (fn := Try.f110) (c := bd110) (lv := lvF110) rfl rfl rfl rfl rfl rfl]
  have hnle := hA.nleE; have hneq := hA.neqE
  have klt := hA.lt; have kle := hA.le; have keq := hA.eq; have knle := hA.nle; have kneq := hA.neq
  rw [lp_split (lpOf (envV A) 110 bd110) 2]
  generalize lpOf (envV A) 110 bd110 2 = L2 at e0 h1 ⊢
  generalize lpOf (envV A) 110 bd110 = LP
  generalize evl (envV A) = E at e0 h1 ⊢
  obtain ⟨aadd, asub, amul, arem, aquo, awr, ashr, aeq, alt, ale, aseq, aslt, acat, acut, asiz, aat, anle, aneq, afit⟩ := A
  simp only at hnle hneq
  subst hnle hneq
  simp only at klt kle keq knle kneq
  try simp only at h1
  conv at e0 => lhs; cbv
  cbv
  rewrite [e0]
  cbv
  rewrite [h1]
  cbv
theorem eq_if_no (e0 : ls.length = n) (h1 : lpOf (envV A) 110 bd110 2 (stIf olds ls kd tag key text ats ks n 0) = some (.code (.exit 0) (stIfe olds ls kd tag key text ats ks n i))) :
    evl (envV A) (.call 110 [.sl 1 ls .ro, .fn 111 [] [.ptr 0 0, .ptr 1 0]] [[.sl 2 olds .imm], wC .imm kd tag key text ats ks]) = some (.ret (.s (.int .i64 (-1))) [[.sl 2 olds .imm], wC .imm kd tag key text ats ks]) := by
  unfold stIf stIfe wC at h1
  unfold wC
  simp only [show Int.ofNat 0 = 0 from rfl] at h1
  rw [evl_fn (envV A) 110 _ _ (fn := Try.f110) (c := bd110) (lv := lvF110) rfl rfl rfl rfl rfl rfl]
  have hnle := hA.nleE; have hneq := hA.neqE
  have klt := hA.lt; have kle := hA.le; have keq := hA.eq; have knle := hA.nle; have kneq := hA.neq
  rw [lp_split (lpOf (envV A) 110 bd110) 2]
  generalize lpOf (envV A) 110 bd110 2 = L2 at e0 h1 ⊢
  generalize lpOf (envV A) 110 bd110 = LP
  generalize evl (envV A) = E at e0 h1 ⊢
  obtain ⟨aadd, asub, amul, arem, aquo, awr, ashr, aeq, alt, ale, aseq, aslt, acat, acut, asiz, aat, anle, aneq, afit⟩ := A
  simp only at hnle hneq
  subst hnle hneq
  simp only at klt kle keq knle kneq
  try simp only at h1
  conv at e0 => lhs; cbv
  cbv
  rewrite [e0]
  cbv
  rewrite [h1]
  cbv
theorem eq_wh_nil (h0 : A.eq (.ofNat 0) 0 = true) : evl (envV A) (.call 84 [.sl 2 olds .imm, .sl 1 [] .ro, .agg (wC .imm kd tag key text ats ks)] []) = some (.ret (.s (.int .i64 (-1))) []) := by
  unfold wC
  rw [evl_fn (envV A) 84 _ _ (fn := Try.f84) (c := bd84) (lv := lvF84) rfl rfl rfl rfl rfl rfl]
  have hnle := hA.nleE; have hneq := hA.neqE
  have klt := hA.lt; have kle := hA.le; have keq := hA.eq; have knle := hA.nle; have kneq := hA.neq
  generalize lpOf (envV A) 84 bd84 = LP
  generalize evl (envV A) = E at h0 ⊢
  obtain ⟨aadd, asub, amul, arem, aquo, awr, ashr, aeq, alt, ale, aseq, aslt, acat, acut, asiz, aat, anle, aneq, afit⟩ := A
  simp only at hnle hneq
  subst hnle hneq
  simp only at klt kle keq knle kneq
  try simp only at h0
  cbv
  rewrite [h0]
  cbv
section
variable (e0 : ls.length = Nat.succ n) (e1 : lget ls 0 = some (.s (.int .i64 (.ofNat k)))) (e2 : Nat.ble (Nat.succ n) (Nat.succ n) = true) (e3 : olds.length = m) (e4 : Nat.ble (Nat.succ k) m = true) (e5 : lget olds k = some (.agg [.s (.string a), .s (.string b)])) (h0 : A.eq (.ofNat (Nat.succ n)) 0 = false)
include e0 e1 e2 e3 e4 e5 h0
theorem eq_wh_3 (h1 : A.eq kd 3 = true) : evl (envV A) (.call 84 [.sl 2 olds .imm, .sl 1 ls .ro, .agg (wC .imm kd tag key text ats ks)] []) = some (.ret (.s (.int .i64 0)) []) := by
  unfold wC
  rw [evl_fn (envV A) 84 _ _ (fn := Try.f84) (c := bd84) (lv := lvF84) rfl rfl rfl rfl rfl rfl]
  have hnle := hA.nleE; have hneq := hA.neqE
  have klt := hA.lt; have kle := hA.le; have keq := hA.eq; have knle := hA.nle; have kneq := hA.neq
  generalize lpOf (envV A) 84 bd84 = LP
  generalize evl (envV A) = E at e0 e1 e2 e3 e4 e5 h0 h1 ⊢
  obtain ⟨aadd, asub, amul, arem, aquo, awr, ashr, aeq, alt, ale, aseq, aslt, acat, acut, asiz, aat, anle, aneq, afit⟩ := A
  simp only at hnle hneq
  subst hnle hneq
  simp only at klt kle keq knle kneq
  try simp only at h0 h1
  conv at e0 => lhs; cbv
  conv at e1 => lhs; cbv
  conv at e2 => lhs; cbv
  conv at e3 => lhs; cbv
  conv at e4 => lhs; cbv
  conv at e5 => lhs; cbv
  cbv
  rewrite [e0]
  cbv
  rewrite [h0]
  cbv
  rewrite [e1]
  cbv
  rewrite [e5]
  cbv
  rewrite [h1]
  cbv
theorem eq_wh_2 (h1 : A.eq kd 3 = false) (h2 : A.eq kd 2 = true) (h3 : A.eq kd 1 = false) : evl (envV A) (.call 84 [.sl 2 olds .imm, .sl 1 ls .ro, .agg (wC .imm kd tag key text ats ks)] []) = some (.ret (.s (.int .i64 (bif A.seq a ⟨#[]⟩ then 0 else -1))) []) := by
  unfold wC
  cases h4 : A.seq a ⟨#[]⟩ <;> simp only [cond_true, cond_false]
  ·
    rw [evl_fn (envV A) 84 _ _ (fn := Try.f84) (c := bd84) (lv := lvF84) rfl rfl rfl rfl rfl rfl]
    have hnle := hA.nleE; have hneq := hA.neqE
    generalize lpOf (envV A) 84 bd84 = LP
    generalize evl (envV A) = E at e0 e1 e2 e3 e4 e5 h0 h1 h2 h3 h4 ⊢
    obtain ⟨aadd, asub, amul, arem, aquo, awr, ashr, aeq, alt, ale, aseq, aslt, acat, acut, asiz, aat, anle, aneq, afit⟩ := A
    simp only at hnle hneq
    subst hnle hneq
    try simp only at h0 h1 h2 h3 h4
    conv at e0 => lhs; cbv
    conv at e1 => lhs; cbv
    conv at e2 => lhs; cbv
    conv at e3 => lhs; cbv
    conv at e4 => lhs; cbv
    conv at e5 => lhs; cbv
    cbv
    rewrite [e0]
    cbv
    rewrite [h0]
    cbv
    rewrite [e1]
    cbv
    rewrite [e5]
    cbv
    rewrite [h1]
    cbv
    rewrite [h2]
    cbv
    rewrite [h4]
    cbv
    rewrite [h3]
    cbv
    rewrite [h3]
    cbv
  ·
    rw [evl_fn (envV A) 84 _ _ (fn := Try.f84) (c := bd84) (lv := lvF84) rfl rfl rfl rfl rfl rfl]
    have hnle := hA.nleE; have hneq := hA.neqE
    generalize lpOf (envV A) 84 bd84 = LP
    generalize evl (envV A) = E at e0 e1 e2 e3 e4 e5 h0 h1 h2 h3 h4 ⊢
    obtain ⟨aadd, asub, amul, arem, aquo, awr, ashr, aeq, alt, ale, aseq, aslt, acat, acut, asiz, aat, anle, aneq, afit⟩ := A
    simp only at hnle hneq
    subst hnle hneq
    try simp only at h0 h1 h2 h3 h4
    conv at e0 => lhs; cbv
    conv at e1 => lhs; cbv
    conv at e2 => lhs; cbv
    conv at e3 => lhs; cbv
    conv at e4 => lhs; cbv
    conv at e5 => lhs; cbv
    cbv
    rewrite [e0]
    cbv
    rewrite [h0]
    cbv
    rewrite [e1]
    cbv
    rewrite [e5]
    cbv
    rewrite [h1]
    cbv
    rewrite [h2]
    cbv
    rewrite [h4]
    cbv
theorem eq_wh_1 (h1 : A.eq kd 3 = false) (h2 : A.eq kd 2 = false) (h3 : A.eq kd 1 = true) (h4 : A.seq key ⟨#[]⟩ = true) : evl (envV A) (.call 84 [.sl 2 olds .imm, .sl 1 ls .ro, .agg (wC .imm kd tag key text ats ks)] []) = some (.ret (.s (.int .i64 (bif A.seq a tag && A.seq b ⟨#[]⟩ then 0 else -1))) []) := by
  unfold wC
  cases h5 : A.seq a tag <;> cases h6 : A.seq b ⟨#[]⟩ <;> simp only [Bool.and_true, Bool.and_false, cond_true, cond_false]
  ·
    rw [evl_fn (envV A) 84 _ _ (fn := Try.f84) (c := bd84) (lv := lvF84) rfl rfl rfl rfl rfl rfl]
    have hnle := hA.nleE; have hneq := hA.neqE
    generalize lpOf (envV A) 84 bd84 = LP
    generalize evl (envV A) = E at e0 e1 e2 e3 e4 e5 h0 h1 h2 h3 h4 h5 h6 ⊢
    obtain ⟨aadd, asub, amul, arem, aquo, awr, ashr, aeq, alt, ale, aseq, aslt, acat, acut, asiz, aat, anle, aneq, afit⟩ := A
    simp only at hnle hneq
    subst hnle hneq
    try simp only at h0 h1 h2 h3 h4 h5 h6
    conv at e0 => lhs; cbv
    conv at e1 => lhs; cbv
    conv at e2 => lhs; cbv
    conv at e3 => lhs; cbv
    conv at e4 => lhs; cbv
    conv at e5 => lhs; cbv
    cbv
    rewrite [e0]
    cbv
    rewrite [h0]
    cbv
    rewrite [e1]
    cbv
    rewrite [e5]
    cbv
    rewrite [h1]
    cbv
    rewrite [h2]
    cbv
    rewrite [h3]
    cbv
    rewrite [h4]
    cbv
    rewrite [h5]
    cbv
    rewrite [h3]
    cbv
    rewrite [h4]
    cbv
  ·
    rw [evl_fn (envV A) 84 _ _ (fn := Try.f84) (c := bd84) (lv := lvF84) rfl rfl rfl rfl rfl rfl]
    have hnle := hA.nleE; have hneq := hA.neqE
    generalize lpOf (envV A) 84 bd84 = LP
    generalize evl (envV A) = E at e0 e1 e2 e3 e4 e5 h0 h1 h2 h3 h4 h5 h6 ⊢
    obtain ⟨aadd, asub, amul, arem, aquo, awr, ashr, aeq, alt, ale, aseq, aslt, acat, acut, asiz, aat, anle, aneq, afit⟩ := A
    simp only at hnle hneq
    subst hnle hneq
    try simp only at h0 h1 h2 h3 h4 h5 h6
    conv at e0 => lhs; cbv
    conv at e1 => lhs; cbv
    conv at e2 => lhs; cbv
    conv at e3 => lhs; cbv
    conv at e4 => lhs; cbv
    conv at e5 => lhs; cbv
    cbv
    rewrite [e0]
    cbv
    rewrite [h0]
    cbv
    rewrite [e1]
    cbv
    rewrite [e5]
    cbv
    rewrite [h1]
    cbv
    rewrite [h2]
    cbv
    rewrite [h3]
    cbv
    rewrite [h4]
    cbv
    rewrite [h5]
    cbv
    rewrite [h3]
    cbv
    rewrite [h4]
    cbv
  ·
    rw [evl_fn (envV A) 84 _ _ (fn := Try.f84) (c := bd84) (lv := lvF84) rfl rfl rfl rfl rfl rfl]
    have hnle := hA.nleE; have hneq := hA.neqE
    generalize lpOf (envV A) 84 bd84 = LP
    generalize evl (envV A) = E at e0 e1 e2 e3 e4 e5 h0 h1 h2 h3 h4 h5 h6 ⊢
    obtain ⟨aadd, asub, amul, arem, aquo, awr, ashr, aeq, alt, ale, aseq, aslt, acat, acut, asiz, aat, anle, aneq, afit⟩ := A
    simp only at hnle hneq
    subst hnle hneq
    try simp only at h0 h1 h2 h3 h4 h5 h6
    conv at e0 => lhs; cbv
    conv at e1 => lhs; cbv
    conv at e2 => lhs; cbv
    conv at e3 => lhs; cbv
    conv at e4 => lhs; cbv
    conv at e5 => lhs; cbv
    cbv
    rewrite [e0]
    cbv
    rewrite [h0]
    cbv
    rewrite [e1]
    cbv
    rewrite [e5]
    cbv
    rewrite [h1]
    cbv
    rewrite [h2]
    cbv
    rewrite [h3]
    cbv
    rewrite [h4]
    cbv
    rewrite [h5]
    cbv
    rewrite [h6]
    cbv
    rewrite [h3]
    cbv
    rewrite [h4]
    cbv
  ·
    rw [evl_fn (envV A) 84 _ _ (fn := Try.f84) (c := bd84) (lv := lvF84) rfl rfl rfl rfl rfl rfl]
    have hnle := hA.nleE; have hneq := hA.neqE
    generalize lpOf (envV A) 84 bd84 = LP
    generalize evl (envV A) = E at e0 e1 e2 e3 e4 e5 h0 h1 h2 h3 h4 h5 h6 ⊢
    obtain ⟨aadd, asub, amul, arem, aquo, awr, ashr, aeq, alt, ale, aseq, aslt, acat, acut, asiz, aat, anle, aneq, afit⟩ := A
    simp only at hnle hneq
    subst hnle hneq
    try simp only at h0 h1 h2 h3 h4 h5 h6
    conv at e0 => lhs; cbv
    conv at e1 => lhs; cbv
    conv at e2 => lhs; cbv
    conv at e3 => lhs; cbv
    conv at e4 => lhs; cbv
    conv at e5 => lhs; cbv
    cbv
    rewrite [e0]
    cbv
    rewrite [h0]
    cbv
    rewrite [e1]
    cbv
    rewrite [e5]
    cbv
    rewrite [h1]
    cbv
    rewrite [h2]
    cbv
    rewrite [h3]
    cbv
    rewrite [h4]
    cbv
    rewrite [h5]
    cbv
    rewrite [h6]
    cbv
theorem eq_wh_k (h1 : A.eq kd 3 = false) (h2 : A.eq kd 2 = false) (h3 : A.eq kd 1 = true) (h4 : A.seq key ⟨#[]⟩ = false) (h5 : evl (envV A) (.call 110 [.sl 1 ls .ro, .fn 111 [] [.ptr 0 0, .ptr 1 0]] [[.sl 2 olds .imm], wC .imm kd tag key text ats ks]) = some (.ret (.s (.int .i64 z)) [[.sl 2 olds .imm], wC .imm kd tag key text ats ks])) : evl (envV A) (.call 84 [.sl 2 olds .imm, .sl 1 ls .ro, .agg (wC .imm kd tag key text ats ks)] []) = some (.ret (.s (.int .i64 z)) []) := by
  unfold wC at h5 ⊢
  rw [evl_fn (envV A) 84 _ _ (fn := Try.f84) (c := bd84) (lv := lvF84) rfl rfl rfl rfl rfl rfl]
  have hnle := hA.nleE; have hneq := hA.neqE
  generalize lpOf (envV A) 84 bd84 = LP
  generalize evl (envV A) = E at e0 e1 e2 e3 e4 e5 h0 h1 h2 h3 h4 h5 ⊢
  obtain ⟨aadd, asub, amul, arem, aquo, awr, ashr, aeq, alt, ale, aseq, aslt, acat, acut, asiz, aat, anle, aneq, afit⟩ := A
  simp only at hnle hneq
  subst hnle hneq
  try simp only at h0 h1 h2 h3 h4 h5
  conv at e0 => lhs; cbv
  conv at e1 => lhs; cbv
  conv at e2 => lhs; cbv
  conv at e3 => lhs; cbv
  conv at e4 => lhs; cbv
  conv at e5 => lhs; cbv
  cbv
  rewrite [e0]
  cbv
  rewrite [h0]
  cbv
  rewrite [e1]
  cbv
  rewrite [e5]
  cbv
  rewrite [h1]
  cbv
  rewrite [h2]
  cbv
  rewrite [h3]
  cbv
  rewrite [h4]
  cbv
  rewrite [h3]
  cbv
  rewrite [h4]
  cbv
  rewrite [h5]
  cbv
theorem eq_wh_o (h1 : A.eq kd 3 = false) (h2 : A.eq kd 2 = false) (h3 : A.eq kd 1 = false) : evl (envV A) (.call 84 [.sl 2 olds .imm, .sl 1 ls .ro, .agg (wC .imm kd tag key text ats ks)] []) = some (.ret (.s (.int .i64 (-1))) []) := by
  unfold wC
  rw [evl_fn (envV A) 84 _ _ (fn := Try.f84) (c := bd84) (lv := lvF84) rfl rfl rfl rfl rfl rfl]
  have hnle := hA.nleE; have hneq := hA.neqE
  generalize lpOf (envV A) 84 bd84 = LP
  generalize evl (envV A) = E at e0 e1 e2 e3 e4 e5 h0 h1 h2 h3 ⊢
  obtain ⟨aadd, asub, amul, arem, aquo, awr, ashr, aeq, alt, ale, aseq, aslt, acat, acut, asiz, aat, anle, aneq, afit⟩ := A
  simp only at hnle hneq
  subst hnle hneq
  try simp only at h0 h1 h2 h3
  conv at e0 => lhs; cbv
  conv at e1 => lhs; cbv
  conv at e2 => lhs; cbv
  conv at e3 => lhs; cbv
  conv at e4 => lhs; cbv
  conv at e5 => lhs; cbv
  cbv
  rewrite [e0]
  cbv
  rewrite [h0]
  cbv
  rewrite [e1]
  cbv
  rewrite [e5]
  cbv
  rewrite [h1]
  cbv
  rewrite [h2]
  cbv
  rewrite [h3]
  cbv
  rewrite [h3]
  cbv
end
end
end Go.Va
namespace Go.Va
open Go.Proofs
set_option maxRecDepth 100000
set_option maxHeartbeats 4000000
def resE : List AV := [.sl 1 [] .full, .sl 1 [] .full, .sl 1 [] .full]
def stM3 (p : Perm) (olds ws ls : List AV) (n i : Nat) : St := { n := 61, k := 0, fr := [(0, .sl 2 olds .imm), (1, .sl 6 ws p), (4, .ptr 0 0), (5, .sl 1 ls .full), (13, .s (.int .i64 (.ofNat n))), (14, .s (.int .i64 (.ofNat i)))], O := [resE] }
def stM3e (p : Perm) (olds ws ls : List AV) (n i : Nat) : St := { n := 61, k := 0, fr := [(0, .sl 2 olds .imm), (1, .sl 6 ws p), (4, .ptr 0 0), (5, .sl 1 ls .full), (13, .s (.int .i64 (.ofNat n))), (14, .s (.int .i64 (.ofNat i))), (15, .s (.bool false))], O := [resE] }
def stM9 (p : Perm) (olds ws ls take kept : List AV) (n i : Nat) : St := { n := 61, k := 0, fr := [(0, .sl 2 olds .imm), (4, .ptr 0 0), (5, .sl 1 ls .full), (7, .ptr 1 0), (22, .sl 6 ws p), (23, .s (.int .i64 (.ofNat n))), (24, .s (.int .i64 (.ofNat i)))], O := [resE, [.sl 1 take .full, .sl 1 kept .full, .sl 1 [] .full]] }
def stM9e (p : Perm) (olds ws ls take kept : List AV) (n i : Nat) : St := { n := 61, k := 0, fr := [(0, .sl 2 olds .imm), (4, .ptr 0 0), (5, .sl 1 ls .full), (7, .ptr 1 0), (22, .sl 6 ws p), (23, .s (.int .i64 (.ofNat n))), (24, .s (.int .i64 (.ofNat i))), (25, .s (.bool false))], O := [resE, [.sl 1 take .full, .sl 1 kept .full, .sl 1 [] .full]] }
section
variable (A : Ar) (hA : ArOk A) (p : Perm) (hp : p = .ro ∨ p = .imm) (olds ws ls ls2 ats ks take take2 kept kept2 : List AV) (n m k j i t u v at_ : Nat) (kd z : Int) (tag key text a b : ByteArray)
include hA hp
theorem lp_m3 {r : Option Res} (e1 : ls.length = m) (e2 : ls ++ [.s (.int .i64 (.ofNat i))] = ls2) (e3 : Nat.beq m m = true) (h1 : A.lt (.ofNat i) (.ofNat n) = true) (h2 : A.add .i64 (.ofNat i) 1 = .ofNat (Nat.succ i)) (h3 : A.fit (Nat.succ m) 8 = true)
    (hr : lpOf (envV A) 46 bd46 3 (stM3 p olds ws ls2 n (Nat.succ i)) = r) : lpOf (envV A) 46 bd46 3 (stM3 p olds ws ls n i) = r := by
  unfold stM3 resE at hr ⊢
  rcases hp with rfl | rfl
  ·
    rw [lp_step (envV A) 46 (c0 := bd46) (lv := lvF46) rfl rfl]
    have hnle := hA.nleE; have hneq := hA.neqE
    have klt := hA.lt; have kle := hA.le; have keq := hA.eq; have knle := hA.nle; have kneq := hA.neq
    rw [lp_split (lpOf (envV A) 46 bd46) 3]
    generalize lpOf (envV A) 46 bd46 3 = L3 at e1 e2 e3 h1 h2 h3 hr ⊢
    generalize lpOf (envV A) 46 bd46 = LP
    generalize evl (envV A) = E at e1 e2 e3 h1 h2 h3 hr ⊢
    obtain ⟨aadd, asub, amul, arem, aquo, awr, ashr, aeq, alt, ale, aseq, aslt, acat, acut, asiz, aat, anle, aneq, afit⟩ := A
    simp only at hnle hneq
    subst hnle hneq
    simp only at klt kle keq knle kneq
    try simp only at h1 h2 h3 hr
    conv at e1 => lhs; cbv
    conv at e2 => lhs; cbv
    conv at e3 => lhs; cbv
    cbv
    rewrite [h1]
    cbv
    rewrite [e1]
    cbv
    rewrite [e2]
    cbv
    rewrite [e3]
    cbv
    rewrite [h3]
    cbv
    rewrite [h2]
    cbv
    rewrite [hr]
    cbv
  ·
    rw [lp_step (envV A) 46 (c0 := bd46) (lv := lvF46) rfl rfl]
    have hnle := hA.nleE; have hneq := hA.neqE
    have klt := hA.lt; have kle := hA.le; have keq := hA.eq; have knle := hA.nle; have kneq := hA.neq
    rw [lp_split (lpOf (envV A) 46 bd46) 3]
    generalize lpOf (envV A) 46 bd46 3 = L3 at e1 e2 e3 h1 h2 h3 hr ⊢
    generalize lpOf (envV A) 46 bd46 = LP
    generalize evl (envV A) = E at e1 e2 e3 h1 h2 h3 hr ⊢
    obtain ⟨aadd, asub, amul, arem, aquo, awr, ashr, aeq, alt, ale, aseq, aslt, acat, acut, asiz, aat, anle, aneq, afit⟩ := A
    simp only at hnle hneq
    subst hnle hneq
    simp only at klt kle keq knle kneq
    try simp only at h1 h2 h3 hr
    conv at e1 => lhs; cbv
    conv at e2 => lhs; cbv
    conv at e3 => lhs; cbv
    cbv
    rewrite [h1]
    cbv
    rewrite [e1]
    cbv
    rewrite [e2]
    cbv
    rewrite [e3]
    cbv
    rewrite [h3]
    cbv
    rewrite [h2]
    cbv
    rewrite [hr]
    cbv
theorem lp_m3_end (h1 : A.lt (.ofNat i) (.ofNat n) = false) : lpOf (envV A) 46 bd46 3 (stM3 p olds ws ls n i) = some (.code (.exit 0) (stM3e p olds ws ls n i)) := by
  unfold stM3 stM3e resE
  rcases hp with rfl | rfl
  ·
    rw [lp_step (envV A) 46 (c0 := bd46) (lv := lvF46) rfl rfl]
    have hnle := hA.nleE; have hneq := hA.neqE
    have klt := hA.lt; have kle := hA.le; have keq := hA.eq; have knle := hA.nle; have kneq := hA.neq
    generalize lpOf (envV A) 46 bd46 = LP
    generalize evl (envV A) = E at h1 ⊢
    obtain ⟨aadd, asub, amul, arem, aquo, awr, ashr, aeq, alt, ale, aseq, aslt, acat, acut, asiz, aat, anle, aneq, afit⟩ := A
    simp only at hnle hneq
    subst hnle hneq
    simp only at klt kle keq knle kneq
    try simp only at h1
    cbv
    rewrite [h1]
    cbv
  ·
    rw [lp_step (envV A) 46 (c0 := bd46) (lv := lvF46) rfl rfl]
    have hnle := hA.nleE; have hneq := hA.neqE
    have klt := hA.lt; have kle := hA.le; have keq := hA.eq; have knle := hA.nle; have kneq := hA.neq
    generalize lpOf (envV A) 46 bd46 = LP
    generalize evl (envV A) = E at h1 ⊢
    obtain ⟨aadd, asub, amul, arem, aquo, awr, ashr, aeq, alt, ale, aseq, aslt, acat, acut, asiz, aat, anle, aneq, afit⟩ := A
    simp only at hnle hneq
    subst hnle hneq
    simp only at klt kle keq knle kneq
    try simp only at h1
    cbv
    rewrite [h1]
    cbv
section
variable (e0 : ws.length = n) (e1 : lget ws i = some (.agg (wC .imm kd tag key text ats ks))) (e2 : Nat.ble (Nat.succ i) n = true) (e3 : ls.length = k) (e4 : 0 + k = k) (e5 : lcut ls 0 k = ls) (e6 : Nat.ble k k = true) (e7 : take.length = t) (e8 : Nat.beq t t = true) (h1 : A.lt (.ofNat i) (.ofNat n) = true) (h2 : A.add .i64 (.ofNat i) 1 = .ofNat (Nat.succ i)) (h3 : A.fit (Nat.succ t) 8 = true)
include e0 e1 e2 e3 e4 e5 e6 e7 e8 h1 h2 h3
theorem lp_m9_no {r : Option Res} (e9 : take ++ [.s (.int .i64 (-1))] = take2) (h4 : evl (envV A) (.call 84 [.sl 2 olds .imm, .sl 1 ls .ro, .agg (wC .imm kd tag key text ats ks)] []) = some (.ret (.s (.int .i64 (-1))) [])) (h5 : A.le 0 (-1) = false) (h6 : A.eq kd 4 = false)
    (hr : lpOf (envV A) 46 bd46 9 (stM9 p olds ws ls take2 kept n (Nat.succ i)) = r) : lpOf (envV A) 46 bd46 9 (stM9 p olds ws ls take kept n i) = r := by
  unfold stM9 resE at hr ⊢
  unfold wC at e1 h4
  rcases hp with rfl | rfl
  ·
    rw [lp_step (envV A) 46 (c0 := bd46) (lv := lvF46) rfl rfl]
    have hnle := hA.nleE; have hneq := hA.neqE
    have klt := hA.lt; have kle := hA.le; have keq := hA.eq; have knle := hA.nle; have kneq := hA.neq
    rw [lp_split (lpOf (envV A) 46 bd46) 9]
    generalize lpOf (envV A) 46 bd46 9 = L9 at e0 e1 e2 e3 e4 e5 e6 e7 e8 e9 h1 h2 h3 h4 h5 h6 hr ⊢
    generalize lpOf (envV A) 46 bd46 = LP
    generalize evl (envV A) = E at e0 e1 e2 e3 e4 e5 e6 e7 e8 e9 h1 h2 h3 h4 h5 h6 hr ⊢
    obtain ⟨aadd, asub, amul, arem, aquo, awr, ashr, aeq, alt, ale, aseq, aslt, acat, acut, asiz, aat, anle, aneq, afit⟩ := A
    simp only at hnle hneq
    subst hnle hneq
    simp only at klt kle keq knle kneq
    try simp only at h1 h2 h3 h4 h5 h6 hr
    conv at e0 => lhs; cbv
    conv at e1 => lhs; cbv
    conv at e2 => lhs; cbv
    conv at e3 => lhs; cbv
    conv at e4 => lhs; cbv
    conv at e5 => lhs; cbv
    conv at e6 => lhs; cbv
    conv at e7 => lhs; cbv
    conv at e8 => lhs; cbv
    conv at e9 => lhs; cbv
    cbv
    rewrite [h1]
    cbv
    rewrite [e1]
    cbv
    rewrite [e3]
    cbv
    rewrite [e4]
    cbv
    rewrite [e5]
    cbv
    rewrite [e6]
    cbv
    rewrite [h4]
    cbv
    rewrite [h5]
    cbv
    rewrite [e7]
    cbv
    rewrite [e8]
    cbv
    rewrite [e9]
    cbv
    rewrite [h3]
    cbv
    rewrite [h6]
    cbv
    rewrite [h2]
    cbv
    rewrite [hr]
    cbv
  ·
    rw [lp_step (envV A) 46 (c0 := bd46) (lv := lvF46) rfl rfl]
    have hnle := hA.nleE; have hneq := hA.neqE
    have klt := hA.lt; have kle := hA.le; have keq := hA.eq; have knle := hA.nle; have kneq := hA.neq
    rw [lp_split (lpOf (envV A) 46 bd46) 9]
    generalize lpOf (envV A) 46 bd46 9 = L9 at e0 e1 e2 e3 e4 e5 e6 e7 e8 e9 h1 h2 h3 h4 h5 h6 hr ⊢
    generalize lpOf (envV A) 46 bd46 = LP
    generalize evl (envV A) = E at e0 e1 e2 e3 e4 e5 e6 e7 e8 e9 h1 h2 h3 h4 h5 h6 hr ⊢
    obtain ⟨aadd, asub, amul, arem, aquo, awr, ashr, aeq, alt, ale, aseq, aslt, acat, acut, asiz, aat, anle, aneq, afit⟩ := A
    simp only at hnle hneq
    subst hnle hneq
    simp only at klt kle keq knle kneq
    try simp only at h1 h2 h3 h4 h5 h6 hr
    conv at e0 => lhs; cbv
    conv at e1 => lhs; cbv
    conv at e2 => lhs; cbv
    conv at e3 => lhs; cbv
    conv at e4 => lhs; cbv
    conv at e5 => lhs; cbv
    conv at e6 => lhs; cbv
    conv at e7 => lhs; cbv
    conv at e8 => lhs; cbv
    conv at e9 => lhs; cbv
    cbv
    rewrite [h1]
    cbv
    rewrite [e1]
    cbv
    rewrite [e3]
    cbv
    rewrite [e4]
    cbv
    rewrite [e5]
    cbv
    rewrite [e6]
    cbv
    rewrite [h4]
    cbv
    rewrite [h5]
    cbv
    rewrite [e7]
    cbv
    rewrite [e8]
    cbv
    rewrite [e9]
    cbv
    rewrite [h3]
    cbv
    rewrite [h6]
    cbv
    rewrite [h2]
    cbv
    rewrite [hr]
    cbv
theorem lp_m9_hit {r : Option Res} (e9 : take ++ [.s (.int .i64 (.ofNat v))] = take2) (ea : lget ls at_ = some (.s (.int .i64 (.ofNat v)))) (eb : Nat.ble (Nat.succ at_) k = true) (ec : 0 + at_ = at_) (ed : Nat.beq k k = true) (h4 : evl (envV A) (.call 84 [.sl 2 olds .imm, .sl 1 ls .ro, .agg (wC .imm kd tag key text ats ks)] []) = some (.ret (.s (.int .i64 (.ofNat at_))) [])) (h5 : A.le 0 (.ofNat at_) = true) (h6 : A.eq kd 4 = false) (h7 : A.add .i64 (.ofNat at_) 1 = .ofNat (Nat.succ at_))
    (h8 : evl (envV A) (.call 85 [.sl 1 ls .full, .s (.int .i64 (.ofNat at_)), .s (.int .i64 (.ofNat (Nat.succ at_)))] []) = some (.ret (.sl 1 ls2 .full) []))
    (hr : lpOf (envV A) 46 bd46 9 (stM9 p olds ws ls2 take2 kept n (Nat.succ i)) = r) : lpOf (envV A) 46 bd46 9 (stM9 p olds ws ls take kept n i) = r := by
  unfold stM9 resE at hr ⊢
  unfold wC at e1 h4
  rcases hp with rfl | rfl
  ·
    rw [lp_step (envV A) 46 (c0 := bd46) (lv := lvF46) rfl rfl]
    have hnle := hA.nleE; have hneq := hA.neqE
    have klt := hA.lt; have kle := hA.le; have keq := hA.eq; have knle := hA.nle; have kneq := hA.neq
    rw [lp_split (lpOf (envV A) 46 bd46) 9]
    generalize lpOf (envV A) 46 bd46 9 = L9 at e0 e1 e2 e3 e4 e5 e6 e7 e8 e9 ea eb ec ed h1 h2 h3 h4 h5 h6 h7 h8 hr ⊢
    generalize lpOf (envV A) 46 bd46 = LP
    generalize evl (envV A) = E at e0 e1 e2 e3 e4 e5 e6 e7 e8 e9 ea eb ec ed h1 h2 h3 h4 h5 h6 h7 h8 hr ⊢
    obtain ⟨aadd, asub, amul, arem, aquo, awr, ashr, aeq, alt, ale, aseq, aslt, acat, acut, asiz, aat, anle, aneq, afit⟩ := A
    simp only at hnle hneq
    subst hnle hneq
    simp only at klt kle keq knle kneq
    try simp only at h1 h2 h3 h4 h5 h6 h7 h8 hr
    conv at e0 => lhs; cbv
    conv at e1 => lhs; cbv
    conv at e2 => lhs; cbv
    conv at e3 => lhs; cbv
    conv at e4 => lhs; cbv
    conv at e5 => lhs; cbv
    conv at e6 => lhs; cbv
    conv at e7 => lhs; cbv
    conv at e8 => lhs; cbv
    conv at e9 => lhs; cbv
    conv at ea => lhs; cbv
    conv at eb => lhs; cbv
    conv at ec => lhs; cbv
    conv at ed => lhs; cbv
    cbv
    rewrite [h1]
    cbv
    rewrite [e1]
    cbv
    rewrite [e3]
    cbv
    rewrite [e4]
    cbv
    rewrite [e5]
    cbv
    rewrite [e6]
    cbv
    rewrite [h4]
    cbv
    rewrite [h5]
    cbv
    rewrite [e3]
    cbv
    rewrite [eb]
    cbv
    rewrite [ec]
    cbv
    rewrite [ea]
    cbv
    rewrite [e3]
    cbv
    rewrite [ed]
    cbv
    rewrite [h7]
    cbv
    rewrite [h8]
    cbv
    rewrite [e7]
    cbv
    rewrite [e8]
    cbv
    rewrite [e9]
    cbv
    rewrite [h3]
    cbv
    rewrite [h6]
    cbv
    rewrite [h2]
    cbv
    rewrite [hr]
    cbv
  ·
    rw [lp_step (envV A) 46 (c0 := bd46) (lv := lvF46) rfl rfl]
    have hnle := hA.nleE; have hneq := hA.neqE
    have klt := hA.lt; have kle := hA.le; have keq := hA.eq; have knle := hA.nle; have kneq := hA.neq
    rw [lp_split (lpOf (envV A) 46 bd46) 9]
    generalize lpOf (envV A) 46 bd46 9 = L9 at e0 e1 e2 e3 e4 e5 e6 e7 e8 e9 ea eb ec ed h1 h2 h3 h4 h5 h6 h7 h8 hr ⊢
    generalize lpOf (envV A) 46 bd46 = LP
    generalize evl (envV A) = E at e0 e1 e2 e3 e4 e5 e6 e7 e8 e9 ea eb ec ed h1 h2 h3 h4 h5 h6 h7 h8 hr ⊢
    obtain ⟨aadd, asub, amul, arem, aquo, awr, ashr, aeq, alt, ale, aseq, aslt, acat, acut, asiz, aat, anle, aneq, afit⟩ := A
    simp only at hnle hneq
    subst hnle hneq
    simp only at klt kle keq knle kneq
    try simp only at h1 h2 h3 h4 h5 h6 h7 h8 hr
    conv at e0 => lhs; cbv
    conv at e1 => lhs; cbv
    conv at e2 => lhs; cbv
    conv at e3 => lhs; cbv
    conv at e4 => lhs; cbv
    conv at e5 => lhs; cbv
    conv at e6 => lhs; cbv
    conv at e7 => lhs; cbv
    conv at e8 => lhs; cbv
    conv at e9 => lhs; cbv
    conv at ea => lhs; cbv
    conv at eb => lhs; cbv
    conv at ec => lhs; cbv
    conv at ed => lhs; cbv
    cbv
    rewrite [h1]
    cbv
    rewrite [e1]
    cbv
    rewrite [e3]
    cbv
    rewrite [e4]
    cbv
    rewrite [e5]
    cbv
    rewrite [e6]
    cbv
    rewrite [h4]
    cbv
    rewrite [h5]
    cbv
    rewrite [e3]
    cbv
    rewrite [eb]
    cbv
    rewrite [ec]
    cbv
    rewrite [ea]
    cbv
    rewrite [e3]
    cbv
    rewrite [ed]
    cbv
    rewrite [h7]
    cbv
    rewrite [h8]
    cbv
    rewrite [e7]
    cbv
    rewrite [e8]
    cbv
    rewrite [e9]
    cbv
    rewrite [h3]
    cbv
    rewrite [h6]
    cbv
    rewrite [h2]
    cbv
    rewrite [hr]
    cbv
theorem lp_m9_all {r : Option Res} (e9 : take ++ [.s (.int .i64 (-1))] = take2) (ea : kept.length = u) (eb : kept ++ ls = kept2) (ec : u + k = v) (ed : kept2.length = v) (ee : Nat.beq u u = true) (ef : Nat.beq k k = true) (h4 : evl (envV A) (.call 84 [.sl 2 olds .imm, .sl 1 ls .ro, .agg (wC .imm kd tag key text ats ks)] []) = some (.ret (.s (.int .i64 (-1))) [])) (h5 : A.le 0 (-1) = false) (h6 : A.eq kd 4 = true) (h7 : A.fit v 8 = true)
    (hr : lpOf (envV A) 46 bd46 9 (stM9 p olds ws [] take2 kept2 n (Nat.succ i)) = r) : lpOf (envV A) 46 bd46 9 (stM9 p olds ws ls take kept n i) = r := by
  unfold stM9 resE at hr ⊢
  unfold wC at e1 h4
  rcases hp with rfl | rfl
  ·
    rw [lp_step (envV A) 46 (c0 := bd46) (lv := lvF46) rfl rfl]
    have hnle := hA.nleE; have hneq := hA.neqE
    have klt := hA.lt; have kle := hA.le; have keq := hA.eq; have knle := hA.nle; have kneq := hA.neq
    rw [lp_split (lpOf (envV A) 46 bd46) 9]
    generalize lpOf (envV A) 46 bd46 9 = L9 at e0 e1 e2 e3 e4 e5 e6 e7 e8 e9 ea eb ec ed ee ef h1 h2 h3 h4 h5 h6 h7 hr ⊢
    generalize lpOf (envV A) 46 bd46 = LP
    generalize evl (envV A) = E at e0 e1 e2 e3 e4 e5 e6 e7 e8 e9 ea eb ec ed ee ef h1 h2 h3 h4 h5 h6 h7 hr ⊢
    obtain ⟨aadd, asub, amul, arem, aquo, awr, ashr, aeq, alt, ale, aseq, aslt, acat, acut, asiz, aat, anle, aneq, afit⟩ := A
    simp only at hnle hneq
    subst hnle hneq
    simp only at klt kle keq knle kneq
    try simp only at h1 h2 h3 h4 h5 h6 h7 hr
    conv at e0 => lhs; cbv
    conv at e1 => lhs; cbv
    conv at e2 => lhs; cbv
    conv at e3 => lhs; cbv
    conv at e4 => lhs; cbv
    conv at e5 => lhs; cbv
    conv at e6 => lhs; cbv
    conv at e7 => lhs; cbv
    conv at e8 => lhs; cbv
    conv at e9 => lhs; cbv
    conv at ea => lhs; cbv
    conv at eb => lhs; cbv
    conv at ec => lhs; cbv
    conv at ed => lhs; cbv
    conv at ee => lhs; cbv
    conv at ef => lhs; cbv
    cbv
    rewrite [h1]
    cbv
    rewrite [e1]
    cbv
    rewrite [e3]
    cbv
    rewrite [e4]
    cbv
    rewrite [e5]
    cbv
    rewrite [e6]
    cbv
    rewrite [h4]
    cbv
    rewrite [h5]
    cbv
    rewrite [e7]
    cbv
    rewrite [e8]
    cbv
    rewrite [e9]
    cbv
    rewrite [h3]
    cbv
    rewrite [h6]
    cbv
    rewrite [e3]
    cbv
    rewrite [e4]
    cbv
    rewrite [e5]
    cbv
    rewrite [e6]
    cbv
    rewrite [e3]
    cbv
    rewrite [ea]
    cbv
    rewrite [eb]
    cbv
    rewrite [ec]
    cbv
    rewrite [ee]
    cbv
    rewrite [h7]
    cbv
    rewrite [h2]
    cbv
    rewrite [hr]
    cbv
  ·
    rw [lp_step (envV A) 46 (c0 := bd46) (lv := lvF46) rfl rfl]
    have hnle := hA.nleE; have hneq := hA.neqE
    have klt := hA.lt; have kle := hA.le; have keq := hA.eq; have knle := hA.nle; have kneq := hA.neq
    rw [lp_split (lpOf (envV A) 46 bd46) 9]
    generalize lpOf (envV A) 46 bd46 9 = L9 at e0 e1 e2 e3 e4 e5 e6 e7 e8 e9 ea eb ec ed ee ef h1 h2 h3 h4 h5 h6 h7 hr ⊢
    generalize lpOf (envV A) 46 bd46 = LP
    generalize evl (envV A) = E at e0 e1 e2 e3 e4 e5 e6 e7 e8 e9 ea eb ec ed ee ef h1 h2 h3 h4 h5 h6 h7 hr ⊢
    obtain ⟨aadd, asub, amul, arem, aquo, awr, ashr, aeq, alt, ale, aseq, aslt, acat, acut, asiz, aat, anle, aneq, afit⟩ := A
    simp only at hnle hneq
    subst hnle hneq
    simp only at klt kle keq knle kneq
    try simp only at h1 h2 h3 h4 h5 h6 h7 hr
    conv at e0 => lhs; cbv
    conv at e1 => lhs; cbv
    conv at e2 => lhs; cbv
    conv at e3 => lhs; cbv
    conv at e4 => lhs; cbv
    conv at e5 => lhs; cbv
    conv at e6 => lhs; cbv
    conv at e7 => lhs; cbv
    conv at e8 => lhs; cbv
    conv at e9 => lhs; cbv
    conv at ea => lhs; cbv
    conv at eb => lhs; cbv
    conv at ec => lhs; cbv
    conv at ed => lhs; cbv
    conv at ee => lhs; cbv
    conv at ef => lhs; cbv
    cbv
    rewrite [h1]
    cbv
    rewrite [e1]
    cbv
    rewrite [e3]
    cbv
    rewrite [e4]
    cbv
    rewrite [e5]
    cbv
    rewrite [e6]
    cbv
    rewrite [h4]
    cbv
    rewrite [h5]
    cbv
    rewrite [e7]
    cbv
    rewrite [e8]
    cbv
    rewrite [e9]
    cbv
    rewrite [h3]
    cbv
    rewrite [h6]
    cbv
    rewrite [e3]
    cbv
    rewrite [e4]
    cbv
    rewrite [e5]
    cbv
    rewrite [e6]
    cbv
    rewrite [e3]
    cbv
    rewrite [ea]
    cbv
    rewrite [eb]
    cbv
    rewrite [ec]
    cbv
    rewrite [ee]
    cbv
    rewrite [h7]
    cbv
    rewrite [h2]
    cbv
    rewrite [hr]
    cbv
end
theorem lp_m9_end (h1 : A.lt (.ofNat i) (.ofNat n) = false) : lpOf (envV A) 46 bd46 9 (stM9 p olds ws ls take kept n i) = some (.code (.exit 2) (stM9e p olds ws ls take kept n i)) := by
  unfold stM9 stM9e resE
  rcases hp with rfl | rfl
  ·
    rw [lp_step (envV A) 46 (c0 := bd46) (lv := lvF46) rfl rfl]
    have hnle := hA.nleE; have hneq := hA.neqE
    have klt := hA.lt; have kle := hA.le; have keq := hA.eq; have knle := hA.nle; have kneq := hA.neq
    generalize lpOf (envV A) 46 bd46 = LP
    generalize evl (envV A) = E at h1 ⊢
    obtain ⟨aadd, asub, amul, arem, aquo, awr, ashr, aeq, alt, ale, aseq, aslt, acat, acut, asiz, aat, anle, aneq, afit⟩ := A
    simp only at hnle hneq
    subst hnle hneq
    simp only at klt kle keq knle kneq
    try simp only at h1
    cbv
    rewrite [h1]
    cbv
  ·
    rw [lp_step (envV A) 46 (c0 := bd46) (lv := lvF46) rfl rfl]
    have hnle := hA.nleE; have hneq := hA.neqE
    have klt := hA.lt; have kle := hA.le; have keq := hA.eq; have knle := hA.nle; have kneq := hA.neq
    generalize lpOf (envV A) 46 bd46 = LP
    generalize evl (envV A) = E at h1 ⊢
    obtain ⟨aadd, asub, amul, arem, aquo, awr, ashr, aeq, alt, ale, aseq, aslt, acat, acut, asiz, aat, anle, aneq, afit⟩ := A
    simp only at hnle hneq
    subst hnle hneq
    simp only at klt kle keq knle kneq
    try simp only at h1
    cbv
    rewrite [h1]
    cbv
theorem eq_mof (e0 : olds.length = n) (e1 : ws.length = m) (e2 : ls.length = k) (e3 : 0 + k = k) (e4 : lcut ls 0 k = ls) (e5 : Nat.ble k k = true) (e6 : take.length = t) (e7 : 0 + t = t) (e8 : lcut take 0 t = take) (e9 : Nat.ble t t = true) (ea : kept.length = u) (eb : 0 + u = u) (ec : lcut kept 0 u = kept) (ed : Nat.ble u u = true) (ee : take.take t = take) (ef : kept.take u = kept) (eg : ls.take k = ls)
    (h1 : lpOf (envV A) 46 bd46 3 (stM3 p olds ws [] n 0) = some (.code (.exit 0) (stM3e p olds ws ls2 n i))) (h2 : lpOf (envV A) 46 bd46 9 (stM9 p olds ws ls2 [] [] m 0) = some (.code (.exit 2) (stM9e p olds ws ls take kept m j))) :
    evl (envV A) (.call 46 [.sl 2 olds .imm, .sl 6 ws p] []) = some (.ret (.agg [.sl 1 take .imm, .sl 1 kept .imm, .sl 1 ls .imm]) []) := by
  unfold stM3 stM3e resE at h1
  unfold stM9 stM9e resE at h2
  simp only [show Int.ofNat 0 = 0 from rfl] at h1 h2
  rcases hp with rfl | rfl
  ·
    rw [evl_fn (envV A) 46 _ _ (fn := Try.f46) (c := bd46) (lv := lvF46) rfl rfl rfl rfl rfl rfl]
    have hnle := hA.nleE; have hneq := hA.neqE
    have klt := hA.lt; have kle := hA.le; have keq := hA.eq; have knle := hA.nle; have kneq := hA.neq
    rw [lp_split (lpOf (envV A) 46 bd46) 3]
    generalize lpOf (envV A) 46 bd46 3 = L3 at e0 e1 e2 e3 e4 e5 e6 e7 e8 e9 ea eb ec ed ee ef eg h1 h2 ⊢
    rw [lp_split (lpOf (envV A) 46 bd46) 9]
    generalize lpOf (envV A) 46 bd46 9 = L9 at e0 e1 e2 e3 e4 e5 e6 e7 e8 e9 ea eb ec ed ee ef eg h1 h2 ⊢
    generalize lpOf (envV A) 46 bd46 = LP
    generalize evl (envV A) = E at e0 e1 e2 e3 e4 e5 e6 e7 e8 e9 ea eb ec ed ee ef eg h1 h2 ⊢
    obtain ⟨aadd, asub, amul, arem, aquo, awr, ashr, aeq, alt, ale, aseq, aslt, acat, acut, asiz, aat, anle, aneq, afit⟩ := A
    simp only at hnle hneq
    subst hnle hneq
    simp only at klt kle keq knle kneq
    try simp only at h1 h2
    conv at e0 => lhs; cbv
    conv at e1 => lhs; cbv
    conv at e2 => lhs; cbv
    conv at e3 => lhs; cbv
    conv at e4 => lhs; cbv
    conv at e5 => lhs; cbv
    conv at e6 => lhs; cbv
    conv at e7 => lhs; cbv
    conv at e8 => lhs; cbv
    conv at e9 => lhs; cbv
    conv at ea => lhs; cbv
    conv at eb => lhs; cbv
    conv at ec => lhs; cbv
    conv at ed => lhs; cbv
    conv at ee => lhs; cbv
    conv at ef => lhs; cbv
    conv at eg => lhs; cbv
    cbv
    rewrite [e0]
    cbv
    rewrite [h1]
    cbv
    rewrite [e1]
    cbv
    rewrite [h2]
    cbv
    rewrite [e2]
    cbv
    rewrite [e3]
    cbv
    rewrite [e4]
    cbv
    rewrite [e5]
    cbv
  ·
    rw [evl_fn (envV A) 46 _ _ (fn := Try.f46) (c := bd46) (lv := lvF46) rfl rfl rfl rfl rfl rfl]
    have hnle := hA.nleE; have hneq := hA.neqE
    have klt := hA.lt; have kle := hA.le; have keq := hA.eq; have knle := hA.nle; have kneq := hA.neq
    rw [lp_split (lpOf (envV A) 46 bd46) 3]
    generalize lpOf (envV A) 46 bd46 3 = L3 at e0 e1 e2 e3 e4 e5 e6 e7 e8 e9 ea eb ec ed ee ef eg h1 h2 ⊢
    rw [lp_split (lpOf (envV A) 46 bd46) 9]
    generalize lpOf (envV A) 46 bd46 9 = L9 at e0 e1 e2 e3 e4 e5 e6 e7 e8 e9 ea eb ec ed ee ef eg h1 h2 ⊢
    generalize lpOf (envV A) 46 bd46 = LP
    generalize evl (envV A) = E at e0 e1 e2 e3 e4 e5 e6 e7 e8 e9 ea eb ec ed ee ef eg h1 h2 ⊢
    obtain ⟨aadd, asub, amul, arem, aquo, awr, ashr, aeq, alt, ale, aseq, aslt, acat, acut, asiz, aat, anle, aneq, afit⟩ := A
    simp only at hnle hneq
    subst hnle hneq
    simp only at klt kle keq knle kneq
    try simp only at h1 h2
    conv at e0 => lhs; cbv
    conv at e1 => lhs; cbv
    conv at e2 => lhs; cbv
    conv at e3 => lhs; cbv
    conv at e4 => lhs; cbv
    conv at e5 => lhs; cbv
    conv at e6 => lhs; cbv
    conv at e7 => lhs; cbv
    conv at e8 => lhs; cbv
    conv at e9 => lhs; cbv
    conv at ea => lhs; cbv
    conv at eb => lhs; cbv
    conv at ec => lhs; cbv
    conv at ed => lhs; cbv
    conv at ee => lhs; cbv
    conv at ef => lhs; cbv
    conv at eg => lhs; cbv
    cbv
    rewrite [e0]
    cbv
    rewrite [h1]
    cbv
    rewrite [e1]
    cbv
    rewrite [h2]
    cbv
    rewrite [e2]
    cbv
    rewrite [e3]
    cbv
    rewrite [e4]
    cbv
    rewrite [e5]
    cbv
end
end Go.Va
