/- The functions that the statement reaches, by equations: no statement of its own. -/
import Derived.Test.YtmklimlepgiffabEq12
set_option linter.unusedVariables false
set_option linter.unusedSimpArgs false
set_option linter.unusedSectionVars false
namespace Go.Va
open Go.Proofs
set_option maxRecDepth 100000
set_option maxHeartbeats 4000000
def stRc (p : Perm) (ws : List AV) (c i : Nat) : St := { n := 35, k := 0, fr := [(0, .sl 6 ws p), (3, .s (.int .i64 (.ofNat c))), (4, .s (.int .i64 (.ofNat i)))], O := [] }
def stRce (p : Perm) (ws : List AV) (c i : Nat) : St := { n := 35, k := 0, fr := [(0, .sl 6 ws p), (3, .s (.int .i64 (.ofNat c))), (4, .s (.int .i64 (.ofNat i))), (8, .s (.bool false))], O := [] }
def stAs (p : Perm) (ws out : List AV) (i : Nat) : St := { n := 47, k := 0, fr := [(0, .sl 6 ws p), (3, .sl 6 out .full), (4, .s (.int .i64 (.ofNat i)))], O := [] }
def stAse (p : Perm) (ws out : List AV) (i : Nat) : St := { n := 47, k := 0, fr := [(0, .sl 6 ws p), (3, .sl 6 out .full), (4, .s (.int .i64 (.ofNat i))), (8, .s (.bool false))], O := [] }
section
variable (A : Ar) (hA : ArOk A) (p : Perm) (hp : p = .ro ∨ p = .imm ∨ p = .full) (ws out out2 ats ks ks2 : List AV) (n m i c d e : Nat) (kd : Int) (tag key text : ByteArray)
include hA hp
theorem lp_rc_1 {r : Option Res} (e0 : ws.length = n) (e1 : lget ws i = some (.agg (wC .imm kd tag key text ats ks))) (e2 : Nat.ble (Nat.succ i) n = true) (e3 : 0 + i = i) (h1 : A.lt (.ofNat i) (.ofNat n) = true) (h2 : A.add .i64 (.ofNat i) 1 = .ofNat (Nat.succ i)) (h3 : A.eq kd 1 = true) (h7 : A.eq kd 2 = false) (h4 : A.add .i64 (.ofNat c) 1 = .ofNat (Nat.succ c))
    (h5 : evl (envV A) (.call 35 [.sl 6 ks .imm] []) = some (.ret (.s (.int .i64 (.ofNat d))) [])) (h6 : A.add .i64 (.ofNat (Nat.succ c)) (.ofNat d) = .ofNat e)
    (hr : lpOf (envV A) 35 bd35 3 (stRc p ws e (Nat.succ i)) = r) : lpOf (envV A) 35 bd35 3 (stRc p ws c i) = r := by
  unfold wC at e1
  unfold stRc at hr ⊢
  rcases hp with rfl | rfl | rfl
  ·
    rw [lp_step (envV A) 35 (c0 := bd35) (lv := lvF35) rfl rfl]
    have hnle := hA.nleE; have hneq := hA.neqE
    have klt := hA.lt; have kle := hA.le; have keq := hA.eq; have knle := hA.nle; have kneq := hA.neq
    rw [lp_split (lpOf (envV A) 35 bd35) 3]
    generalize lpOf (envV A) 35 bd35 3 = L3 at e0 e1 e2 e3 h1 h2 h3 h7 h4 h5 h6 hr ⊢
    generalize lpOf (envV A) 35 bd35 = LP
    generalize evl (envV A) = E at e0 e1 e2 e3 h1 h2 h3 h7 h4 h5 h6 hr ⊢
    obtain ⟨aadd, asub, amul, arem, aquo, awr, ashr, aeq, alt, ale, aseq, aslt, acat, acut, asiz, aat, anle, aneq, afit⟩ := A
    simp only at hnle hneq
    subst hnle hneq
    simp only at klt kle keq knle kneq
    try simp only at h1 h2 h3 h7 h4 h5 h6 hr
    conv at e0 => lhs; cbv
    conv at e1 => lhs; cbv
    conv at e2 => lhs; cbv
    conv at e3 => lhs; cbv
    cbv
    rewrite [e0]
    cbv
    rewrite [h1]
    cbv
    rewrite [e1]
    cbv
    rewrite [h7]
    cbv
    rewrite [e1]
    cbv
    rewrite [h3]
    cbv
    rewrite [e1]
    cbv
    rewrite [h5]
    cbv
    rewrite [h2]
    cbv
    rewrite [h4]
    cbv
    rewrite [h6]
    cbv
    rewrite [hr]
    cbv
  ·
    rw [lp_step (envV A) 35 (c0 := bd35) (lv := lvF35) rfl rfl]
    have hnle := hA.nleE; have hneq := hA.neqE
    have klt := hA.lt; have kle := hA.le; have keq := hA.eq; have knle := hA.nle; have kneq := hA.neq
    rw [lp_split (lpOf (envV A) 35 bd35) 3]
    generalize lpOf (envV A) 35 bd35 3 = L3 at e0 e1 e2 e3 h1 h2 h3 h7 h4 h5 h6 hr ⊢
    generalize lpOf (envV A) 35 bd35 = LP
    generalize evl (envV A) = E at e0 e1 e2 e3 h1 h2 h3 h7 h4 h5 h6 hr ⊢
    obtain ⟨aadd, asub, amul, arem, aquo, awr, ashr, aeq, alt, ale, aseq, aslt, acat, acut, asiz, aat, anle, aneq, afit⟩ := A
    simp only at hnle hneq
    subst hnle hneq
    simp only at klt kle keq knle kneq
    try simp only at h1 h2 h3 h7 h4 h5 h6 hr
    conv at e0 => lhs; cbv
    conv at e1 => lhs; cbv
    conv at e2 => lhs; cbv
    conv at e3 => lhs; cbv
    cbv
    rewrite [e0]
    cbv
    rewrite [h1]
    cbv
    rewrite [e1]
    cbv
    rewrite [h7]
    cbv
    rewrite [e1]
    cbv
    rewrite [h3]
    cbv
    rewrite [e1]
    cbv
    rewrite [h5]
    cbv
    rewrite [h2]
    cbv
    rewrite [h4]
    cbv
    rewrite [h6]
    cbv
    rewrite [hr]
    cbv
  ·
    rw [lp_step (envV A) 35 (c0 := bd35) (lv := lvF35) rfl rfl]
    have hnle := hA.nleE; have hneq := hA.neqE
    have klt := hA.lt; have kle := hA.le; have keq := hA.eq; have knle := hA.nle; have kneq := hA.neq
    rw [lp_split (lpOf (envV A) 35 bd35) 3]
    generalize lpOf (envV A) 35 bd35 3 = L3 at e0 e1 e2 e3 h1 h2 h3 h7 h4 h5 h6 hr ⊢
    generalize lpOf (envV A) 35 bd35 = LP
    generalize evl (envV A) = E at e0 e1 e2 e3 h1 h2 h3 h7 h4 h5 h6 hr ⊢
    obtain ⟨aadd, asub, amul, arem, aquo, awr, ashr, aeq, alt, ale, aseq, aslt, acat, acut, asiz, aat, anle, aneq, afit⟩ := A
    simp only at hnle hneq
    subst hnle hneq
    simp only at klt kle keq knle kneq
    try simp only at h1 h2 h3 h7 h4 h5 h6 hr
    conv at e0 => lhs; cbv
    conv at e1 => lhs; cbv
    conv at e2 => lhs; cbv
    conv at e3 => lhs; cbv
    cbv
    rewrite [e0]
    cbv
    rewrite [h1]
    cbv
    rewrite [e0]
    cbv
    rewrite [e2]
    cbv
    rewrite [e3]
    cbv
    rewrite [e1]
    cbv
    rewrite [h7]
    cbv
    rewrite [e0]
    cbv
    rewrite [e2]
    cbv
    rewrite [e3]
    cbv
    rewrite [e1]
    cbv
    rewrite [h3]
    cbv
    rewrite [e0]
    cbv
    rewrite [e2]
    cbv
    rewrite [e3]
    cbv
    rewrite [e1]
    cbv
    rewrite [h5]
    cbv
    rewrite [h2]
    cbv
    rewrite [h4]
    cbv
    rewrite [h6]
    cbv
    rewrite [hr]
    cbv
theorem lp_rc_2 {r : Option Res} (e0 : ws.length = n) (e1 : lget ws i = some (.agg (wC .imm kd tag key text ats ks))) (e2 : Nat.ble (Nat.succ i) n = true) (e3 : 0 + i = i) (h1 : A.lt (.ofNat i) (.ofNat n) = true) (h2 : A.add .i64 (.ofNat i) 1 = .ofNat (Nat.succ i)) (h3 : A.eq kd 1 = false) (h5 : A.eq kd 2 = true) (h4 : A.add .i64 (.ofNat c) 1 = .ofNat (Nat.succ c))
    (hr : lpOf (envV A) 35 bd35 3 (stRc p ws (Nat.succ c) (Nat.succ i)) = r) : lpOf (envV A) 35 bd35 3 (stRc p ws c i) = r := by
  unfold wC at e1
  unfold stRc at hr ⊢
  rcases hp with rfl | rfl | rfl
  ·
    rw [lp_step (envV A) 35 (c0 := bd35) (lv := lvF35) rfl rfl]
    have hnle := hA.nleE; have hneq := hA.neqE
    have klt := hA.lt; have kle := hA.le; have keq := hA.eq; have knle := hA.nle; have kneq := hA.neq
    rw [lp_split (lpOf (envV A) 35 bd35) 3]
    generalize lpOf (envV A) 35 bd35 3 = L3 at e0 e1 e2 e3 h1 h2 h3 h4 h5 hr ⊢
    generalize lpOf (envV A) 35 bd35 = LP
    generalize evl (envV A) = E at e0 e1 e2 e3 h1 h2 h3 h4 h5 hr ⊢
    obtain ⟨aadd, asub, amul, arem, aquo, awr, ashr, aeq, alt, ale, aseq, aslt, acat, acut, asiz, aat, anle, aneq, afit⟩ := A
    simp only at hnle hneq
    subst hnle hneq
    simp only at klt kle keq knle kneq
    try simp only at h1 h2 h3 h4 h5 hr
    conv at e0 => lhs; cbv
    conv at e1 => lhs; cbv
    conv at e2 => lhs; cbv
    conv at e3 => lhs; cbv
    cbv
    rewrite [e0]
    cbv
    rewrite [h1]
    cbv
    rewrite [e1]
    cbv
    rewrite [h5]
    cbv
    rewrite [e1]
    cbv
    rewrite [h3]
    cbv
    rewrite [h2]
    cbv
    rewrite [h4]
    cbv
    rewrite [hr]
    cbv
  ·
    rw [lp_step (envV A) 35 (c0 := bd35) (lv := lvF35) rfl rfl]
    have hnle := hA.nleE; have hneq := hA.neqE
    have klt := hA.lt; have kle := hA.le; have keq := hA.eq; have knle := hA.nle; have kneq := hA.neq
    rw [lp_split (lpOf (envV A) 35 bd35) 3]
    generalize lpOf (envV A) 35 bd35 3 = L3 at e0 e1 e2 e3 h1 h2 h3 h4 h5 hr ⊢
    generalize lpOf (envV A) 35 bd35 = LP
    generalize evl (envV A) = E at e0 e1 e2 e3 h1 h2 h3 h4 h5 hr ⊢
    obtain ⟨aadd, asub, amul, arem, aquo, awr, ashr, aeq, alt, ale, aseq, aslt, acat, acut, asiz, aat, anle, aneq, afit⟩ := A
    simp only at hnle hneq
    subst hnle hneq
    simp only at klt kle keq knle kneq
    try simp only at h1 h2 h3 h4 h5 hr
    conv at e0 => lhs; cbv
    conv at e1 => lhs; cbv
    conv at e2 => lhs; cbv
    conv at e3 => lhs; cbv
    cbv
    rewrite [e0]
    cbv
    rewrite [h1]
    cbv
    rewrite [e1]
    cbv
    rewrite [h5]
    cbv
    rewrite [e1]
    cbv
    rewrite [h3]
    cbv
    rewrite [h2]
    cbv
    rewrite [h4]
    cbv
    rewrite [hr]
    cbv
  ·
    rw [lp_step (envV A) 35 (c0 := bd35) (lv := lvF35) rfl rfl]
    have hnle := hA.nleE; have hneq := hA.neqE
    have klt := hA.lt; have kle := hA.le; have keq := hA.eq; have knle := hA.nle; have kneq := hA.neq
    rw [lp_split (lpOf (envV A) 35 bd35) 3]
    generalize lpOf (envV A) 35 bd35 3 = L3 at e0 e1 e2 e3 h1 h2 h3 h4 h5 hr ⊢
    generalize lpOf (envV A) 35 bd35 = LP
    generalize evl (envV A) = E at e0 e1 e2 e3 h1 h2 h3 h4 h5 hr ⊢
    obtain ⟨aadd, asub, amul, arem, aquo, awr, ashr, aeq, alt, ale, aseq, aslt, acat, acut, asiz, aat, anle, aneq, afit⟩ := A
    simp only at hnle hneq
    subst hnle hneq
    simp only at klt kle keq knle kneq
    try simp only at h1 h2 h3 h4 h5 hr
    conv at e0 => lhs; cbv
    conv at e1 => lhs; cbv
    conv at e2 => lhs; cbv
    conv at e3 => lhs; cbv
    cbv
    rewrite [e0]
    cbv
    rewrite [h1]
    cbv
    rewrite [e0]
    cbv
    rewrite [e2]
    cbv
    rewrite [e3]
    cbv
    rewrite [e1]
    cbv
    rewrite [h5]
    cbv
    rewrite [e0]
    cbv
    rewrite [e2]
    cbv
    rewrite [e3]
    cbv
    rewrite [e1]
    cbv
    rewrite [h3]
    cbv
    rewrite [h2]
    cbv
    rewrite [h4]
    cbv
    rewrite [hr]
    cbv
theorem lp_rc_3 {r : Option Res} (e0 : ws.length = n) (e1 : lget ws i = some (.agg (wC .imm kd tag key text ats ks))) (e2 : Nat.ble (Nat.succ i) n = true) (e3 : 0 + i = i) (h1 : A.lt (.ofNat i) (.ofNat n) = true) (h2 : A.add .i64 (.ofNat i) 1 = .ofNat (Nat.succ i)) (h3 : A.eq kd 1 = false) (h5 : A.eq kd 2 = false)
    (hr : lpOf (envV A) 35 bd35 3 (stRc p ws c (Nat.succ i)) = r) : lpOf (envV A) 35 bd35 3 (stRc p ws c i) = r := by
  unfold wC at e1
  unfold stRc at hr ⊢
  rcases hp with rfl | rfl | rfl
  ·
    rw [lp_step (envV A) 35 (c0 := bd35) (lv := lvF35) rfl rfl]
    have hnle := hA.nleE; have hneq := hA.neqE
    have klt := hA.lt; have kle := hA.le; have keq := hA.eq; have knle := hA.nle; have kneq := hA.neq
    rw [lp_split (lpOf (envV A) 35 bd35) 3]
    generalize lpOf (envV A) 35 bd35 3 = L3 at e0 e1 e2 e3 h1 h2 h3 h5 hr ⊢
    generalize lpOf (envV A) 35 bd35 = LP
    generalize evl (envV A) = E at e0 e1 e2 e3 h1 h2 h3 h5 hr ⊢
    obtain ⟨aadd, asub, amul, arem, aquo, awr, ashr, aeq, alt, ale, aseq, aslt, acat, acut, asiz, aat, anle, aneq, afit⟩ := A
    simp only at hnle hneq
    subst hnle hneq
    simp only at klt kle keq knle kneq
    try simp only at h1 h2 h3 h5 hr
    conv at e0 => lhs; cbv
    conv at e1 => lhs; cbv
    conv at e2 => lhs; cbv
    conv at e3 => lhs; cbv
    cbv
    rewrite [e0]
    cbv
    rewrite [h1]
    cbv
    rewrite [e1]
    cbv
    rewrite [h5]
    cbv
    rewrite [e1]
    cbv
    rewrite [h3]
    cbv
    rewrite [h2]
    cbv
    rewrite [hr]
    cbv
  ·
    rw [lp_step (envV A) 35 (c0 := bd35) (lv := lvF35) rfl rfl]
    have hnle := hA.nleE; have hneq := hA.neqE
    have klt := hA.lt; have kle := hA.le; have keq := hA.eq; have knle := hA.nle; have kneq := hA.neq
    rw [lp_split (lpOf (envV A) 35 bd35) 3]
    generalize lpOf (envV A) 35 bd35 3 = L3 at e0 e1 e2 e3 h1 h2 h3 h5 hr ⊢
    generalize lpOf (envV A) 35 bd35 = LP
    generalize evl (envV A) = E at e0 e1 e2 e3 h1 h2 h3 h5 hr ⊢
    obtain ⟨aadd, asub, amul, arem, aquo, awr, ashr, aeq, alt, ale, aseq, aslt, acat, acut, asiz, aat, anle, aneq, afit⟩ := A
    simp only at hnle hneq
    subst hnle hneq
    simp only at klt kle keq knle kneq
    try simp only at h1 h2 h3 h5 hr
    conv at e0 => lhs; cbv
    conv at e1 => lhs; cbv
    conv at e2 => lhs; cbv
    conv at e3 => lhs; cbv
    cbv
    rewrite [e0]
    cbv
    rewrite [h1]
    cbv
    rewrite [e1]
    cbv
    rewrite [h5]
    cbv
    rewrite [e1]
    cbv
    rewrite [h3]
    cbv
    rewrite [h2]
    cbv
    rewrite [hr]
    cbv
  ·
    rw [lp_step (envV A) 35 (c0 := bd35) (lv := lvF35) rfl rfl]
    have hnle := hA.nleE; have hneq := hA.neqE
    have klt := hA.lt; have kle := hA.le; have keq := hA.eq; have knle := hA.nle; have kneq := hA.neq
    rw [lp_split (lpOf (envV A) 35 bd35) 3]
    generalize lpOf (envV A) 35 bd35 3 = L3 at e0 e1 e2 e3 h1 h2 h3 h5 hr ⊢
    generalize lpOf (envV A) 35 bd35 = LP
    generalize evl (envV A) = E at e0 e1 e2 e3 h1 h2 h3 h5 hr ⊢
    obtain ⟨aadd, asub, amul, arem, aquo, awr, ashr, aeq, alt, ale, aseq, aslt, acat, acut, asiz, aat, anle, aneq, afit⟩ := A
    simp only at hnle hneq
    subst hnle hneq
    simp only at klt kle keq knle kneq
    try simp only at h1 h2 h3 h5 hr
    conv at e0 => lhs; cbv
    conv at e1 => lhs; cbv
    conv at e2 => lhs; cbv
    conv at e3 => lhs; cbv
    cbv
    rewrite [e0]
    cbv
    rewrite [h1]
    cbv
    rewrite [e0]
    cbv
    rewrite [e2]
    cbv
    rewrite [e3]
    cbv
    rewrite [e1]
    cbv
    rewrite [h5]
    cbv
    rewrite [e0]
    cbv
    rewrite [e2]
    cbv
    rewrite [e3]
    cbv
    rewrite [e1]
    cbv
    rewrite [h3]
    cbv
    rewrite [h2]
    cbv
    rewrite [hr]
    cbv
theorem lp_rc_end (e0 : ws.length = n) (h1 : A.lt (.ofNat i) (.ofNat n) = false) : lpOf (envV A) 35 bd35 3 (stRc p ws c i) = some (.code (.exit 0) (stRce p ws c i)) := by
  unfold stRc stRce
  rcases hp with rfl | rfl | rfl
  ·
    rw [lp_step (envV A) 35 (c0 := bd35) (lv := lvF35) rfl rfl]
    have hnle := hA.nleE; have hneq := hA.neqE
    have klt := hA.lt; have kle := hA.le; have keq := hA.eq; have knle := hA.nle; have kneq := hA.neq
    generalize lpOf (envV A) 35 bd35 = LP
    generalize evl (envV A) = E at e0 h1 ⊢
    obtain ⟨aadd, asub, amul, arem, aquo, awr, ashr, aeq, alt, ale, aseq, aslt, acat, acut, asiz, aat, anle, aneq, afit⟩ := A
    simp only at hnle hneq
    subst hnle hneq
    simp only at klt kle keq knle kneq
    try simp only at h1
    conv at e0 => lhs; cbv
    cbv
    rewrite [e0]
    cbv
    rewrite [h1]
    cbv
  ·
    rw [lp_step (envV A) 35 (c0 := bd35) (lv := lvF35) rfl rfl]
    have hnle := hA.nleE; have hneq := hA.neqE
    have klt := hA.lt; have kle := hA.le; have keq := hA.eq; have knle := hA.nle; have kneq := hA.neq
    generalize lpOf (envV A) 35 bd35 = LP
    generalize evl (envV A) = E at e0 h1 ⊢
    obtain ⟨aadd, asub, amul, arem, aquo, awr, ashr, aeq, alt, ale, aseq, aslt, acat, acut, asiz, aat, anle, aneq, afit⟩ := A
    simp only at hnle hneq
    subst hnle hneq
    simp only at klt kle keq knle kneq
    try simp only at h1
    conv at e0 => lhs; cbv
    cbv
    rewrite [e0]
    cbv
    rewrite [h1]
    cbv
  ·
    rw [lp_step (envV A) 35 (c0 := bd35) (lv := lvF35) rfl rfl]
    have hnle := hA.nleE; have hneq := hA.neqE
    have klt := hA.lt; have kle := hA.le; have keq := hA.eq; have knle := hA.nle; have kneq := hA.neq
    generalize lpOf (envV A) 35 bd35 = LP
    generalize evl (envV A) = E at e0 h1 ⊢
    obtain ⟨aadd, asub, amul, arem, aquo, awr, ashr, aeq, alt, ale, aseq, aslt, acat, acut, asiz, aat, anle, aneq, afit⟩ := A
    simp only at hnle hneq
    subst hnle hneq
    simp only at klt kle keq knle kneq
    try simp only at h1
    conv at e0 => lhs; cbv
    cbv
    rewrite [e0]
    cbv
    rewrite [h1]
    cbv
theorem eq_rc (h1 : lpOf (envV A) 35 bd35 3 (stRc p ws 0 0) = some (.code (.exit 0) (stRce p ws c i))) :
    evl (envV A) (.call 35 [.sl 6 ws p] []) = some (.ret (.s (.int .i64 (.ofNat c))) []) := by
  unfold stRc stRce at h1
  simp only [show Int.ofNat 0 = 0 from rfl] at h1
  rcases hp with rfl | rfl | rfl
  ·
    rw [evl_fn (envV A) 35 _ _ (fn := Try.f35) (c := bd35) (lv := lvF35) rfl rfl rfl rfl rfl rfl]
    have hnle := hA.nleE; have hneq := hA.neqE
    have klt := hA.lt; have kle := hA.le; have keq := hA.eq; have knle := hA.nle; have kneq := hA.neq
    rw [lp_split (lpOf (envV A) 35 bd35) 3]
    generalize lpOf (envV A) 35 bd35 3 = L3 at h1 ⊢
    generalize lpOf (envV A) 35 bd35 = LP
    generalize evl (envV A) = E at h1 ⊢
    obtain ⟨aadd, asub, amul, arem, aquo, awr, ashr, aeq, alt, ale, aseq, aslt, acat, acut, asiz, aat, anle, aneq, afit⟩ := A
    simp only at hnle hneq
    subst hnle hneq
    simp only at klt kle keq knle kneq
    try simp only at h1
    cbv
    rewrite [h1]
    cbv
  ·
    rw [evl_fn (envV A) 35 _ _ (fn := Try.f35) (c := bd35) (lv := lvF35) rfl rfl rfl rfl rfl rfl]
    have hnle := hA.nleE; have hneq := hA.neqE
    have klt := hA.lt; have kle := hA.le; have keq := hA.eq; have knle := hA.nle; have kneq := hA.neq
    rw [lp_split (lpOf (envV A) 35 bd35) 3]
    generalize lpOf (envV A) 35 bd35 3 = L3 at h1 ⊢
    generalize lpOf (envV A) 35 bd35 = LP
    generalize evl (envV A) = E at h1 ⊢
    obtain ⟨aadd, asub, amul, arem, aquo, awr, ashr, aeq, alt, ale, aseq, aslt, acat, acut, asiz, aat, anle, aneq, afit⟩ := A
    simp only at hnle hneq
    subst hnle hneq
    simp only at klt kle keq knle kneq
    try simp only at h1
    cbv
    rewrite [h1]
    cbv
  ·
    rw [evl_fn (envV A) 35 _ _ (fn := Try.f35) (c := bd35) (lv := lvF35) rfl rfl rfl rfl rfl rfl]
    have hnle := hA.nleE; have hneq := hA.neqE
    have klt := hA.lt; have kle := hA.le; have keq := hA.eq; have knle := hA.nle; have kneq := hA.neq
    rw [lp_split (lpOf (envV A) 35 bd35) 3]
    generalize lpOf (envV A) 35 bd35 3 = L3 at h1 ⊢
    generalize lpOf (envV A) 35 bd35 = LP
    generalize evl (envV A) = E at h1 ⊢
    obtain ⟨aadd, asub, amul, arem, aquo, awr, ashr, aeq, alt, ale, aseq, aslt, acat, acut, asiz, aat, anle, aneq, afit⟩ := A
    simp only at hnle hneq
    subst hnle hneq
    simp only at klt kle keq knle kneq
    try simp only at h1
    cbv
    rewrite [h1]
    cbv
end
section
variable (A : Ar) (hA : ArOk A) (p : Perm) (hp : p = .ro ∨ p = .imm) (ws out out2 ats ks ks2 : List AV) (n m i c d e : Nat) (kd : Int) (tag key text : ByteArray)
include hA hp
theorem lp_as {r : Option Res} (kz : Nat) (e0 : ws.length = n) (e1 : lget ws i = some (.agg (wC .imm kd tag key text ats ks))) (e2 : Nat.ble (Nat.succ i) n = true) (e3 : out.length = m) (e4 : out ++ [.agg [.s (.int .i64 kd), .s (.string tag), .s (.string key), .s (.string text), .sl 3 ats .imm, .sl 6 ks2 .imm]] = out2) (e5 : Nat.beq m m = true) (e7 : ks2.length = kz) (e8 : Nat.ble kz kz = true) (e9 : ks2.take kz = ks2)
    (h1 : A.lt (.ofNat i) (.ofNat n) = true) (h2 : A.add .i64 (.ofNat i) 1 = .ofNat (Nat.succ i)) (h4 : A.fit (Nat.succ m) 104 = true)
    (h5 : evl (envV A) (.call 36 [.sl 6 ks .imm] []) = some (.ret (.sl 6 ks2 .full) []))
    (hr : lpOf (envV A) 36 bd36 3 (stAs p ws out2 (Nat.succ i)) = r) : lpOf (envV A) 36 bd36 3 (stAs p ws out i) = r := by
  unfold wC at e1
  unfold stAs at hr ⊢
  rcases hp with rfl | rfl
  ·
    rw [lp_step (envV A) 36 (c0 := bd36) (lv := lvF36) rfl rfl]
    have hnle := hA.nleE; have hneq := hA.neqE
    have klt := hA.lt; have kle := hA.le; have keq := hA.eq; have knle := hA.nle; have kneq := hA.neq
    rw [lp_split (lpOf (envV A) 36 bd36) 3]
    generalize lpOf (envV A) 36 bd36 3 = L3 at e0 e1 e2 e3 e4 e5 e7 e8 e9 h1 h2 h4 h5 hr ⊢
    generalize lpOf (envV A) 36 bd36 = LP
    generalize evl (envV A) = E at e0 e1 e2 e3 e4 e5 e7 e8 e9 h1 h2 h4 h5 hr ⊢
    obtain ⟨aadd, asub, amul, arem, aquo, awr, ashr, aeq, alt, ale, aseq, aslt, acat, acut, asiz, aat, anle, aneq, afit⟩ := A
    simp only at hnle hneq
    subst hnle hneq
    simp only at klt kle keq knle kneq
    try simp only at h1 h2 h4 h5 hr
    conv at e0 => lhs; cbv
    conv at e1 => lhs; cbv
    conv at e2 => lhs; cbv
    conv at e3 => lhs; cbv
    conv at e4 => lhs; cbv
    conv at e5 => lhs; cbv
    conv at e7 => lhs; cbv
    conv at e8 => lhs; cbv
    conv at e9 => lhs; cbv
    cbv
    rewrite [e0]
    cbv
    rewrite [h1]
    cbv
    rewrite [e1]
    cbv
    rewrite [e1]
    cbv
    rewrite [e1]
    cbv
    rewrite [e1]
    cbv
    rewrite [e1]
    cbv
    rewrite [e1]
    cbv
    rewrite [e3]
    cbv
    rewrite [h5]
    cbv
    rewrite [e3]
    cbv
    rewrite [e4]
    cbv
    rewrite [e5]
    cbv
    rewrite [h4]
    cbv
    rewrite [h2]
    cbv
    rewrite [hr]
    cbv
  ·
    rw [lp_step (envV A) 36 (c0 := bd36) (lv := lvF36) rfl rfl]
    have hnle := hA.nleE; have hneq := hA.neqE
    have klt := hA.lt; have kle := hA.le; have keq := hA.eq; have knle := hA.nle; have kneq := hA.neq
    rw [lp_split (lpOf (envV A) 36 bd36) 3]
    generalize lpOf (envV A) 36 bd36 3 = L3 at e0 e1 e2 e3 e4 e5 e7 e8 e9 h1 h2 h4 h5 hr ⊢
    generalize lpOf (envV A) 36 bd36 = LP
    generalize evl (envV A) = E at e0 e1 e2 e3 e4 e5 e7 e8 e9 h1 h2 h4 h5 hr ⊢
    obtain ⟨aadd, asub, amul, arem, aquo, awr, ashr, aeq, alt, ale, aseq, aslt, acat, acut, asiz, aat, anle, aneq, afit⟩ := A
    simp only at hnle hneq
    subst hnle hneq
    simp only at klt kle keq knle kneq
    try simp only at h1 h2 h4 h5 hr
    conv at e0 => lhs; cbv
    conv at e1 => lhs; cbv
    conv at e2 => lhs; cbv
    conv at e3 => lhs; cbv
    conv at e4 => lhs; cbv
    conv at e5 => lhs; cbv
    conv at e7 => lhs; cbv
    conv at e8 => lhs; cbv
    conv at e9 => lhs; cbv
    cbv
    rewrite [e0]
    cbv
    rewrite [h1]
    cbv
    rewrite [e1]
    cbv
    rewrite [e1]
    cbv
    rewrite [e1]
    cbv
    rewrite [e1]
    cbv
    rewrite [e1]
    cbv
    rewrite [e1]
    cbv
    rewrite [e3]
    cbv
    rewrite [h5]
    cbv
    rewrite [e3]
    cbv
    rewrite [e4]
    cbv
    rewrite [e5]
    cbv
    rewrite [h4]
    cbv
    rewrite [h2]
    cbv
    rewrite [hr]
    cbv
theorem lp_as_end (e0 : ws.length = n) (h1 : A.lt (.ofNat i) (.ofNat n) = false) : lpOf (envV A) 36 bd36 3 (stAs p ws out i) = some (.code (.exit 0) (stAse p ws out i)) := by
  unfold stAs stAse
  rcases hp with rfl | rfl
  ·
    rw [lp_step (envV A) 36 (c0 := bd36) (lv := lvF36) rfl rfl]
    have hnle := hA.nleE; have hneq := hA.neqE
    have klt := hA.lt; have kle := hA.le; have keq := hA.eq; have knle := hA.nle; have kneq := hA.neq
    generalize lpOf (envV A) 36 bd36 = LP
    generalize evl (envV A) = E at e0 h1 ⊢
    obtain ⟨aadd, asub, amul, arem, aquo, awr, ashr, aeq, alt, ale, aseq, aslt, acat, acut, asiz, aat, anle, aneq, afit⟩ := A
    simp only at hnle hneq
    subst hnle hneq
    simp only at klt kle keq knle kneq
    try simp only at h1
    conv at e0 => lhs; cbv
    cbv
    rewrite [e0]
    cbv
    rewrite [h1]
    cbv
  ·
    rw [lp_step (envV A) 36 (c0 := bd36) (lv := lvF36) rfl rfl]
    have hnle := hA.nleE; have hneq := hA.neqE
    have klt := hA.lt; have kle := hA.le; have keq := hA.eq; have knle := hA.nle; have kneq := hA.neq
    generalize lpOf (envV A) 36 bd36 = LP
    generalize evl (envV A) = E at e0 h1 ⊢
    obtain ⟨aadd, asub, amul, arem, aquo, awr, ashr, aeq, alt, ale, aseq, aslt, acat, acut, asiz, aat, anle, aneq, afit⟩ := A
    simp only at hnle hneq
    subst hnle hneq
    simp only at klt kle keq knle kneq
    try simp only at h1
    conv at e0 => lhs; cbv
    cbv
    rewrite [e0]
    cbv
    rewrite [h1]
    cbv
theorem eq_as (e3 : out.length = m) (e4 : Nat.ble m m = true) (e5 : out.take m = out) (h1 : lpOf (envV A) 36 bd36 3 (stAs p ws [] 0) = some (.code (.exit 0) (stAse p ws out i))) :
    evl (envV A) (.call 36 [.sl 6 ws p] []) = some (.ret (.sl 6 out .full) []) := by
  unfold stAs stAse at h1
  simp only [show Int.ofNat 0 = 0 from rfl] at h1
  rcases hp with rfl | rfl
  ·
    rw [evl_fn (envV A) 36 _ _ (fn := Try.f36) (c := bd36) (lv := lvF36) rfl rfl rfl rfl rfl rfl]
    have hnle := hA.nleE; have hneq := hA.neqE
    have klt := hA.lt; have kle := hA.le; have keq := hA.eq; have knle := hA.nle; have kneq := hA.neq
    rw [lp_split (lpOf (envV A) 36 bd36) 3]
    generalize lpOf (envV A) 36 bd36 3 = L3 at e3 e4 e5 h1 ⊢
    generalize lpOf (envV A) 36 bd36 = LP
    generalize evl (envV A) = E at e3 e4 e5 h1 ⊢
    obtain ⟨aadd, asub, amul, arem, aquo, awr, ashr, aeq, alt, ale, aseq, aslt, acat, acut, asiz, aat, anle, aneq, afit⟩ := A
    simp only at hnle hneq
    subst hnle hneq
    simp only at klt kle keq knle kneq
    try simp only at h1
    conv at e3 => lhs; cbv
    conv at e4 => lhs; cbv
    conv at e5 => lhs; cbv
    cbv
    rewrite [h1]
    cbv
    rewrite [e3]
    cbv
    rewrite [e4]
    cbv
    rewrite [e5]
    cbv
  ·
    rw [evl_fn (envV A) 36 _ _ (fn := Try.f36) (c := bd36) (lv := lvF36) rfl rfl rfl rfl rfl rfl]
    have hnle := hA.nleE; have hneq := hA.neqE
    have klt := hA.lt; have kle := hA.le; have keq := hA.eq; have knle := hA.nle; have kneq := hA.neq
    rw [lp_split (lpOf (envV A) 36 bd36) 3]
    generalize lpOf (envV A) 36 bd36 3 = L3 at e3 e4 e5 h1 ⊢
    generalize lpOf (envV A) 36 bd36 = LP
    generalize evl (envV A) = E at e3 e4 e5 h1 ⊢
    obtain ⟨aadd, asub, amul, arem, aquo, awr, ashr, aeq, alt, ale, aseq, aslt, acat, acut, asiz, aat, anle, aneq, afit⟩ := A
    simp only at hnle hneq
    subst hnle hneq
    simp only at klt kle keq knle kneq
    try simp only at h1
    conv at e3 => lhs; cbv
    conv at e4 => lhs; cbv
    conv at e5 => lhs; cbv
    cbv
    rewrite [h1]
    cbv
    rewrite [e3]
    cbv
    rewrite [e4]
    cbv
    rewrite [e5]
    cbv
theorem eq_Nodes (h1 : evl (envV A) (.call 42 [.sl 6 ws p] []) = some (.ret (.s (.int .i64 (.ofNat c))) [])) : evl (envV A) (.call 37 [.sl 6 ws p] []) = some (.ret (.s (.int .i64 (.ofNat c))) []) := by
  rcases hp with rfl | rfl
  ·
    rw [evl_fn (envV A) 37 _ _ (fn := Try.f37) (c := bd37) (lv := lvF37) rfl rfl rfl rfl rfl rfl]
    have hnle := hA.nleE; have hneq := hA.neqE
    have klt := hA.lt; have kle := hA.le; have keq := hA.eq; have knle := hA.nle; have kneq := hA.neq
    generalize lpOf (envV A) 37 bd37 = LP
    generalize evl (envV A) = E at h1 ⊢
    obtain ⟨aadd, asub, amul, arem, aquo, awr, ashr, aeq, alt, ale, aseq, aslt, acat, acut, asiz, aat, anle, aneq, afit⟩ := A
    simp only at hnle hneq
    subst hnle hneq
    simp only at klt kle keq knle kneq
    try simp only at h1
    cbv
    rewrite [h1]
    cbv
  ·
    rw [evl_fn (envV A) 37 _ _ (fn := Try.f37) (c := bd37) (lv := lvF37) rfl rfl rfl rfl rfl rfl]
    have hnle := hA.nleE; have hneq := hA.neqE
    have klt := hA.lt; have kle := hA.le; have keq := hA.eq; have knle := hA.nle; have kneq := hA.neq
    generalize lpOf (envV A) 37 bd37 = LP
    generalize evl (envV A) = E at h1 ⊢
    obtain ⟨aadd, asub, amul, arem, aquo, awr, ashr, aeq, alt, ale, aseq, aslt, acat, acut, asiz, aat, anle, aneq, afit⟩ := A
    simp only at hnle hneq
    subst hnle hneq
    simp only at klt kle keq knle kneq
    try simp only at h1
    cbv
    rewrite [h1]
    cbv
theorem eq_Changes (z z1 z2 z3 z4 : Int) (q : Bool) (h1 : evl (envV A) (.call 37 [.sl 6 ws p] []) = some (.ret (.s (.int .i64 (.ofNat c))) [])) (h2 : A.lt z 0 = q) (h3 : A.mul .i64 4 (.ofNat c) = z1) (h4 : A.mul .i64 2 (bif q then 0 else z) = z2) (h5 : A.add .i64 z1 z2 = z3) (h6 : A.add .i64 z3 1 = z4) :
    evl (envV A) (.call 38 [.sl 6 ws p, .s (.int .i64 z)] []) = some (.ret (.s (.int .i64 z4)) []) := by
  cases q <;> simp only [cond_true, cond_false] at h4
  · rcases hp with rfl | rfl
    ·
      rw [evl_fn (envV A) 38 _ _ (fn := Try.f38) (c := bd38) (lv := lvF38) rfl rfl rfl rfl rfl rfl]
      have hnle := hA.nleE; have hneq := hA.neqE
      have klt := hA.lt; have kle := hA.le; have keq := hA.eq; have knle := hA.nle; have kneq := hA.neq
      generalize lpOf (envV A) 38 bd38 = LP
      generalize evl (envV A) = E at h1 h2 h3 h4 h5 h6 ⊢
      obtain ⟨aadd, asub, amul, arem, aquo, awr, ashr, aeq, alt, ale, aseq, aslt, acat, acut, asiz, aat, anle, aneq, afit⟩ := A
      simp only at hnle hneq
      subst hnle hneq
      simp only at klt kle keq knle kneq
      try simp only at h1 h2 h3 h4 h5 h6
      cbv
      rewrite [h1]
      cbv
      rewrite [h3]
      cbv
      rewrite [h2]
      cbv
      rewrite [h4]
      cbv
      rewrite [h5]
      cbv
      rewrite [h6]
      cbv
    ·
      rw [evl_fn (envV A) 38 _ _ (fn := Try.f38) (c := bd38) (lv := lvF38) rfl rfl rfl rfl rfl rfl]
      have hnle := hA.nleE; have hneq := hA.neqE
      have klt := hA.lt; have kle := hA.le; have keq := hA.eq; have knle := hA.nle; have kneq := hA.neq
      generalize lpOf (envV A) 38 bd38 = LP
      generalize evl (envV A) = E at h1 h2 h3 h4 h5 h6 ⊢
      obtain ⟨aadd, asub, amul, arem, aquo, awr, ashr, aeq, alt, ale, aseq, aslt, acat, acut, asiz, aat, anle, aneq, afit⟩ := A
      simp only at hnle hneq
      subst hnle hneq
      simp only at klt kle keq knle kneq
      try simp only at h1 h2 h3 h4 h5 h6
      cbv
      rewrite [h1]
      cbv
      rewrite [h3]
      cbv
      rewrite [h2]
      cbv
      rewrite [h4]
      cbv
      rewrite [h5]
      cbv
      rewrite [h6]
      cbv
  · rcases hp with rfl | rfl
    ·
      rw [evl_fn (envV A) 38 _ _ (fn := Try.f38) (c := bd38) (lv := lvF38) rfl rfl rfl rfl rfl rfl]
      have hnle := hA.nleE; have hneq := hA.neqE
      have klt := hA.lt; have kle := hA.le; have keq := hA.eq; have knle := hA.nle; have kneq := hA.neq
      generalize lpOf (envV A) 38 bd38 = LP
      generalize evl (envV A) = E at h1 h2 h3 h4 h5 h6 ⊢
      obtain ⟨aadd, asub, amul, arem, aquo, awr, ashr, aeq, alt, ale, aseq, aslt, acat, acut, asiz, aat, anle, aneq, afit⟩ := A
      simp only at hnle hneq
      subst hnle hneq
      simp only at klt kle keq knle kneq
      try simp only at h1 h2 h3 h4 h5 h6
      cbv
      rewrite [h1]
      cbv
      rewrite [h3]
      cbv
      rewrite [h2]
      cbv
      rewrite [h4]
      cbv
      rewrite [h5]
      cbv
      rewrite [h6]
      cbv
    ·
      rw [evl_fn (envV A) 38 _ _ (fn := Try.f38) (c := bd38) (lv := lvF38) rfl rfl rfl rfl rfl rfl]
      have hnle := hA.nleE; have hneq := hA.neqE
      have klt := hA.lt; have kle := hA.le; have keq := hA.eq; have knle := hA.nle; have kneq := hA.neq
      generalize lpOf (envV A) 38 bd38 = LP
      generalize evl (envV A) = E at h1 h2 h3 h4 h5 h6 ⊢
      obtain ⟨aadd, asub, amul, arem, aquo, awr, ashr, aeq, alt, ale, aseq, aslt, acat, acut, asiz, aat, anle, aneq, afit⟩ := A
      simp only at hnle hneq
      subst hnle hneq
      simp only at klt kle keq knle kneq
      try simp only at h1 h2 h3 h4 h5 h6
      cbv
      rewrite [h1]
      cbv
      rewrite [h3]
      cbv
      rewrite [h2]
      cbv
      rewrite [h4]
      cbv
      rewrite [h5]
      cbv
      rewrite [h6]
      cbv
end
theorem s_law18_up : evl (envV realAr) (.call 33 [] []) = some (.ret (.s (.bool true)) []) := evl_of (n := 60) (by kernel_rfl)
end Go.Va
