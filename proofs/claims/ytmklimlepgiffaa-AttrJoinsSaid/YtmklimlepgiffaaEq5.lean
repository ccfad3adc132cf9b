/- The functions that the statement reaches, by equations: no statement of its own. -/
import Derived.Test.YtmklimlepgiffaaEq4
set_option linter.unusedVariables false
set_option linter.unusedSimpArgs false
set_option linter.unusedSectionVars false
namespace Go.Va
open Go.Proofs
set_option maxRecDepth 100000
set_option maxHeartbeats 4000000
def stE (xs ys : List AV) (p q : Perm) (n i : Nat) : St := { n := 26, k := 0, fr := [(0, .sl 3 xs p), (1, .sl 3 ys q), (12, .s (.int .i64 (.ofNat n))), (13, .s (.int .i64 (.ofNat i)))], O := [] }
def stEe (xs ys : List AV) (p q : Perm) (n i : Nat) : St := { n := 26, k := 0, fr := [(0, .sl 3 xs p), (1, .sl 3 ys q), (12, .s (.int .i64 (.ofNat n))), (13, .s (.int .i64 (.ofNat i))), (14, .s (.bool false))], O := [] }
def stD (xs ys : List AV) (p q : Perm) (i : Nat) : St := { n := 26, k := 0, fr := [(0, .sl 3 xs p), (1, .sl 3 ys q), (5, .s (.int .i64 (.ofNat i)))], O := [] }
def stDe (xs ys : List AV) (p q : Perm) (i : Nat) : St := { n := 26, k := 0, fr := [(0, .sl 3 xs p), (1, .sl 3 ys q), (5, .s (.int .i64 (.ofNat i))), (14, .s (.bool false))], O := [] }
def stE0 : St := { n := 26, k := 0, fr := [(4, .s (.bool false))], O := [] }
section
variable (A : Ar) (hA : ArOk A) (xs ys : List AV) (p q : Perm) (hp : p = .ro ∨ p = .imm) (hq : q = .ro ∨ q = .imm) (n i m : Nat) (a b c d : ByteArray) (st su : Bool) 
include hA hp hq
theorem lp_attr_Equal {r : Option Res} (e1 : lget xs i = some (.agg [.s (.string a), .s (.string b), .s (.bool st)])) (e2 : Nat.ble (Nat.succ i) n = true) (e3 : xs.length = n) (e4 : lget ys i = some (.agg [.s (.string c), .s (.string d), .s (.bool su)])) (e5 : ys.length = n) (h2 : A.lt (.ofNat i) (.ofNat n) = true) (h3 : A.add .i64 (.ofNat i) 1 = .ofNat (Nat.succ i))
    (hr : lpOf (envV A) 91 bd91 4 (stE xs ys p q n (Nat.succ i)) = r) :
    lpOf (envV A) 91 bd91 4 (stE xs ys p q n i) = (bif A.seq a c && (A.seq b d && (st == su)) then r else some (.code .ret stE0)) := by
  unfold stE at hr ⊢
  unfold stE0
  rcases hp with rfl | rfl <;> rcases hq with rfl | rfl <;> cases st <;> cases su
  ·
    rw [lp_step (envV A) 91 (c0 := bd91) (lv := lvF91) rfl rfl]
    have hnle := hA.nleE; have hneq := hA.neqE
    have klt := hA.lt; have kle := hA.le; have keq := hA.eq; have knle := hA.nle; have kneq := hA.neq
    rw [lp_split (lpOf (envV A) 91 bd91) 4]
    generalize lpOf (envV A) 91 bd91 4 = L4 at e1 e2 e3 e4 e5 h2 h3 hr ⊢
    generalize lpOf (envV A) 91 bd91 = LP
    generalize evl (envV A) = E at e1 e2 e3 e4 e5 h2 h3 hr ⊢
    obtain ⟨aadd, asub, amul, arem, aquo, awr, ashr, aeq, alt, ale, aseq, aslt, acat, acut, asiz, aat, anle, aneq, afit⟩ := A
    simp only at hnle hneq
    subst hnle hneq
    simp only at klt kle keq knle kneq
    try simp only at h2 h3 hr
    conv at e1 => lhs; cbv
    conv at e2 => lhs; cbv
    conv at e3 => lhs; cbv
    conv at e4 => lhs; cbv
    conv at e5 => lhs; cbv
    cbv
    rewrite [h2]
    cbv
    rewrite [e1]
    cbv
    rewrite [e4]
    cbv
    cases c1 : aseq a c
    · cbv
    · cbv
      cases c2 : aseq b d
      · cbv
      · cbv
        rewrite [h3]
        cbv
        rewrite [hr]
        cbv
  ·
    rw [lp_step (envV A) 91 (c0 := bd91) (lv := lvF91) rfl rfl]
    have hnle := hA.nleE; have hneq := hA.neqE
    have klt := hA.lt; have kle := hA.le; have keq := hA.eq; have knle := hA.nle; have kneq := hA.neq
    rw [lp_split (lpOf (envV A) 91 bd91) 4]
    generalize lpOf (envV A) 91 bd91 4 = L4 at e1 e2 e3 e4 e5 h2 h3 hr ⊢
    generalize lpOf (envV A) 91 bd91 = LP
    generalize evl (envV A) = E at e1 e2 e3 e4 e5 h2 h3 hr ⊢
    obtain ⟨aadd, asub, amul, arem, aquo, awr, ashr, aeq, alt, ale, aseq, aslt, acat, acut, asiz, aat, anle, aneq, afit⟩ := A
    simp only at hnle hneq
    subst hnle hneq
    simp only at klt kle keq knle kneq
    try simp only at h2 h3 hr
    conv at e1 => lhs; cbv
    conv at e2 => lhs; cbv
    conv at e3 => lhs; cbv
    conv at e4 => lhs; cbv
    conv at e5 => lhs; cbv
    cbv
    rewrite [h2]
    cbv
    rewrite [e1]
    cbv
    rewrite [e4]
    cbv
    cases c1 : aseq a c
    · cbv
    · cbv
      cases c2 : aseq b d
      · cbv
      · cbv
  ·
    rw [lp_step (envV A) 91 (c0 := bd91) (lv := lvF91) rfl rfl]
    have hnle := hA.nleE; have hneq := hA.neqE
    have klt := hA.lt; have kle := hA.le; have keq := hA.eq; have knle := hA.nle; have kneq := hA.neq
    rw [lp_split (lpOf (envV A) 91 bd91) 4]
    generalize lpOf (envV A) 91 bd91 4 = L4 at e1 e2 e3 e4 e5 h2 h3 hr ⊢
    generalize lpOf (envV A) 91 bd91 = LP
    generalize evl (envV A) = E at e1 e2 e3 e4 e5 h2 h3 hr ⊢
    obtain ⟨aadd, asub, amul, arem, aquo, awr, ashr, aeq, alt, ale, aseq, aslt, acat, acut, asiz, aat, anle, aneq, afit⟩ := A
    simp only at hnle hneq
    subst hnle hneq
    simp only at klt kle keq knle kneq
    try simp only at h2 h3 hr
    conv at e1 => lhs; cbv
    conv at e2 => lhs; cbv
    conv at e3 => lhs; cbv
    conv at e4 => lhs; cbv
    conv at e5 => lhs; cbv
    cbv
    rewrite [h2]
    cbv
    rewrite [e1]
    cbv
    rewrite [e4]
    cbv
    cases c1 : aseq a c
    · cbv
    · cbv
      cases c2 : aseq b d
      · cbv
      · cbv
  ·
    rw [lp_step (envV A) 91 (c0 := bd91) (lv := lvF91) rfl rfl]
    have hnle := hA.nleE; have hneq := hA.neqE
    have klt := hA.lt; have kle := hA.le; have keq := hA.eq; have knle := hA.nle; have kneq := hA.neq
    rw [lp_split (lpOf (envV A) 91 bd91) 4]
    generalize lpOf (envV A) 91 bd91 4 = L4 at e1 e2 e3 e4 e5 h2 h3 hr ⊢
    generalize lpOf (envV A) 91 bd91 = LP
    generalize evl (envV A) = E at e1 e2 e3 e4 e5 h2 h3 hr ⊢
    obtain ⟨aadd, asub, amul, arem, aquo, awr, ashr, aeq, alt, ale, aseq, aslt, acat, acut, asiz, aat, anle, aneq, afit⟩ := A
    simp only at hnle hneq
    subst hnle hneq
    simp only at klt kle keq knle kneq
    try simp only at h2 h3 hr
    conv at e1 => lhs; cbv
    conv at e2 => lhs; cbv
    conv at e3 => lhs; cbv
    conv at e4 => lhs; cbv
    conv at e5 => lhs; cbv
    cbv
    rewrite [h2]
    cbv
    rewrite [e1]
    cbv
    rewrite [e4]
    cbv
    cases c1 : aseq a c
    · cbv
    · cbv
      cases c2 : aseq b d
      · cbv
      · cbv
        rewrite [h3]
        cbv
        rewrite [hr]
        cbv
  ·
    rw [lp_step (envV A) 91 (c0 := bd91) (lv := lvF91) rfl rfl]
    have hnle := hA.nleE; have hneq := hA.neqE
    have klt := hA.lt; have kle := hA.le; have keq := hA.eq; have knle := hA.nle; have kneq := hA.neq
    rw [lp_split (lpOf (envV A) 91 bd91) 4]
    generalize lpOf (envV A) 91 bd91 4 = L4 at e1 e2 e3 e4 e5 h2 h3 hr ⊢
    generalize lpOf (envV A) 91 bd91 = LP
    generalize evl (envV A) = E at e1 e2 e3 e4 e5 h2 h3 hr ⊢
    obtain ⟨aadd, asub, amul, arem, aquo, awr, ashr, aeq, alt, ale, aseq, aslt, acat, acut, asiz, aat, anle, aneq, afit⟩ := A
    simp only at hnle hneq
    subst hnle hneq
    simp only at klt kle keq knle kneq
    try simp only at h2 h3 hr
    conv at e1 => lhs; cbv
    conv at e2 => lhs; cbv
    conv at e3 => lhs; cbv
    conv at e4 => lhs; cbv
    conv at e5 => lhs; cbv
    cbv
    rewrite [h2]
    cbv
    rewrite [e1]
    cbv
    rewrite [e4]
    cbv
    cases c1 : aseq a c
    · cbv
    · cbv
      cases c2 : aseq b d
      · cbv
      · cbv
        rewrite [h3]
        cbv
        rewrite [hr]
        cbv
  ·
    rw [lp_step (envV A) 91 (c0 := bd91) (lv := lvF91) rfl rfl]
    have hnle := hA.nleE; have hneq := hA.neqE
    have klt := hA.lt; have kle := hA.le; have keq := hA.eq; have knle := hA.nle; have kneq := hA.neq
    rw [lp_split (lpOf (envV A) 91 bd91) 4]
    generalize lpOf (envV A) 91 bd91 4 = L4 at e1 e2 e3 e4 e5 h2 h3 hr ⊢
    generalize lpOf (envV A) 91 bd91 = LP
    generalize evl (envV A) = E at e1 e2 e3 e4 e5 h2 h3 hr ⊢
    obtain ⟨aadd, asub, amul, arem, aquo, awr, ashr, aeq, alt, ale, aseq, aslt, acat, acut, asiz, aat, anle, aneq, afit⟩ := A
    simp only at hnle hneq
    subst hnle hneq
    simp only at klt kle keq knle kneq
    try simp only at h2 h3 hr
    conv at e1 => lhs; cbv
    conv at e2 => lhs; cbv
    conv at e3 => lhs; cbv
    conv at e4 => lhs; cbv
    conv at e5 => lhs; cbv
    cbv
    rewrite [h2]
    cbv
    rewrite [e1]
    cbv
    rewrite [e4]
    cbv
    cases c1 : aseq a c
    · cbv
    · cbv
      cases c2 : aseq b d
      · cbv
      · cbv
  ·
    rw [lp_step (envV A) 91 (c0 := bd91) (lv := lvF91) rfl rfl]
    have hnle := hA.nleE; have hneq := hA.neqE
    have klt := hA.lt; have kle := hA.le; have keq := hA.eq; have knle := hA.nle; have kneq := hA.neq
    rw [lp_split (lpOf (envV A) 91 bd91) 4]
    generalize lpOf (envV A) 91 bd91 4 = L4 at e1 e2 e3 e4 e5 h2 h3 hr ⊢
    generalize lpOf (envV A) 91 bd91 = LP
    generalize evl (envV A) = E at e1 e2 e3 e4 e5 h2 h3 hr ⊢
    obtain ⟨aadd, asub, amul, arem, aquo, awr, ashr, aeq, alt, ale, aseq, aslt, acat, acut, asiz, aat, anle, aneq, afit⟩ := A
    simp only at hnle hneq
    subst hnle hneq
    simp only at klt kle keq knle kneq
    try simp only at h2 h3 hr
    conv at e1 => lhs; cbv
    conv at e2 => lhs; cbv
    conv at e3 => lhs; cbv
    conv at e4 => lhs; cbv
    conv at e5 => lhs; cbv
    cbv
    rewrite [h2]
    cbv
    rewrite [e1]
    cbv
    rewrite [e4]
    cbv
    cases c1 : aseq a c
    · cbv
    · cbv
      cases c2 : aseq b d
      · cbv
      · cbv
  ·
    rw [lp_step (envV A) 91 (c0 := bd91) (lv := lvF91) rfl rfl]
    have hnle := hA.nleE; have hneq := hA.neqE
    have klt := hA.lt; have kle := hA.le; have keq := hA.eq; have knle := hA.nle; have kneq := hA.neq
    rw [lp_split (lpOf (envV A) 91 bd91) 4]
    generalize lpOf (envV A) 91 bd91 4 = L4 at e1 e2 e3 e4 e5 h2 h3 hr ⊢
    generalize lpOf (envV A) 91 bd91 = LP
    generalize evl (envV A) = E at e1 e2 e3 e4 e5 h2 h3 hr ⊢
    obtain ⟨aadd, asub, amul, arem, aquo, awr, ashr, aeq, alt, ale, aseq, aslt, acat, acut, asiz, aat, anle, aneq, afit⟩ := A
    simp only at hnle hneq
    subst hnle hneq
    simp only at klt kle keq knle kneq
    try simp only at h2 h3 hr
    conv at e1 => lhs; cbv
    conv at e2 => lhs; cbv
    conv at e3 => lhs; cbv
    conv at e4 => lhs; cbv
    conv at e5 => lhs; cbv
    cbv
    rewrite [h2]
    cbv
    rewrite [e1]
    cbv
    rewrite [e4]
    cbv
    cases c1 : aseq a c
    · cbv
    · cbv
      cases c2 : aseq b d
      · cbv
      · cbv
        rewrite [h3]
        cbv
        rewrite [hr]
        cbv
  ·
    rw [lp_step (envV A) 91 (c0 := bd91) (lv := lvF91) rfl rfl]
    have hnle := hA.nleE; have hneq := hA.neqE
    have klt := hA.lt; have kle := hA.le; have keq := hA.eq; have knle := hA.nle; have kneq := hA.neq
    rw [lp_split (lpOf (envV A) 91 bd91) 4]
    generalize lpOf (envV A) 91 bd91 4 = L4 at e1 e2 e3 e4 e5 h2 h3 hr ⊢
    generalize lpOf (envV A) 91 bd91 = LP
    generalize evl (envV A) = E at e1 e2 e3 e4 e5 h2 h3 hr ⊢
    obtain ⟨aadd, asub, amul, arem, aquo, awr, ashr, aeq, alt, ale, aseq, aslt, acat, acut, asiz, aat, anle, aneq, afit⟩ := A
    simp only at hnle hneq
    subst hnle hneq
    simp only at klt kle keq knle kneq
    try simp only at h2 h3 hr
    conv at e1 => lhs; cbv
    conv at e2 => lhs; cbv
    conv at e3 => lhs; cbv
    conv at e4 => lhs; cbv
    conv at e5 => lhs; cbv
    cbv
    rewrite [h2]
    cbv
    rewrite [e1]
    cbv
    rewrite [e4]
    cbv
    cases c1 : aseq a c
    · cbv
    · cbv
      cases c2 : aseq b d
      · cbv
      · cbv
        rewrite [h3]
        cbv
        rewrite [hr]
        cbv
  ·
    rw [lp_step (envV A) 91 (c0 := bd91) (lv := lvF91) rfl rfl]
    have hnle := hA.nleE; have hneq := hA.neqE
    have klt := hA.lt; have kle := hA.le; have keq := hA.eq; have knle := hA.nle; have kneq := hA.neq
    rw [lp_split (lpOf (envV A) 91 bd91) 4]
    generalize lpOf (envV A) 91 bd91 4 = L4 at e1 e2 e3 e4 e5 h2 h3 hr ⊢
    generalize lpOf (envV A) 91 bd91 = LP
    generalize evl (envV A) = E at e1 e2 e3 e4 e5 h2 h3 hr ⊢
    obtain ⟨aadd, asub, amul, arem, aquo, awr, ashr, aeq, alt, ale, aseq, aslt, acat, acut, asiz, aat, anle, aneq, afit⟩ := A
    simp only at hnle hneq
    subst hnle hneq
    simp only at klt kle keq knle kneq
    try simp only at h2 h3 hr
    conv at e1 => lhs; cbv
    conv at e2 => lhs; cbv
    conv at e3 => lhs; cbv
    conv at e4 => lhs; cbv
    conv at e5 => lhs; cbv
    cbv
    rewrite [h2]
    cbv
    rewrite [e1]
    cbv
    rewrite [e4]
    cbv
    cases c1 : aseq a c
    · cbv
    · cbv
      cases c2 : aseq b d
      · cbv
      · cbv
  ·
    rw [lp_step (envV A) 91 (c0 := bd91) (lv := lvF91) rfl rfl]
    have hnle := hA.nleE; have hneq := hA.neqE
    have klt := hA.lt; have kle := hA.le; have keq := hA.eq; have knle := hA.nle; have kneq := hA.neq
    rw [lp_split (lpOf (envV A) 91 bd91) 4]
    generalize lpOf (envV A) 91 bd91 4 = L4 at e1 e2 e3 e4 e5 h2 h3 hr ⊢
    generalize lpOf (envV A) 91 bd91 = LP
    generalize evl (envV A) = E at e1 e2 e3 e4 e5 h2 h3 hr ⊢
    obtain ⟨aadd, asub, amul, arem, aquo, awr, ashr, aeq, alt, ale, aseq, aslt, acat, acut, asiz, aat, anle, aneq, afit⟩ := A
    simp only at hnle hneq
    subst hnle hneq
    simp only at klt kle keq knle kneq
    try simp only at h2 h3 hr
    conv at e1 => lhs; cbv
    conv at e2 => lhs; cbv
    conv at e3 => lhs; cbv
    conv at e4 => lhs; cbv
    conv at e5 => lhs; cbv
    cbv
    rewrite [h2]
    cbv
    rewrite [e1]
    cbv
    rewrite [e4]
    cbv
    cases c1 : aseq a c
    · cbv
    · cbv
      cases c2 : aseq b d
      · cbv
      · cbv
  ·
    rw [lp_step (envV A) 91 (c0 := bd91) (lv := lvF91) rfl rfl]
    have hnle := hA.nleE; have hneq := hA.neqE
    have klt := hA.lt; have kle := hA.le; have keq := hA.eq; have knle := hA.nle; have kneq := hA.neq
    rw [lp_split (lpOf (envV A) 91 bd91) 4]
    generalize lpOf (envV A) 91 bd91 4 = L4 at e1 e2 e3 e4 e5 h2 h3 hr ⊢
    generalize lpOf (envV A) 91 bd91 = LP
    generalize evl (envV A) = E at e1 e2 e3 e4 e5 h2 h3 hr ⊢
    obtain ⟨aadd, asub, amul, arem, aquo, awr, ashr, aeq, alt, ale, aseq, aslt, acat, acut, asiz, aat, anle, aneq, afit⟩ := A
    simp only at hnle hneq
    subst hnle hneq
    simp only at klt kle keq knle kneq
    try simp only at h2 h3 hr
    conv at e1 => lhs; cbv
    conv at e2 => lhs; cbv
    conv at e3 => lhs; cbv
    conv at e4 => lhs; cbv
    conv at e5 => lhs; cbv
    cbv
    rewrite [h2]
    cbv
    rewrite [e1]
    cbv
    rewrite [e4]
    cbv
    cases c1 : aseq a c
    · cbv
    · cbv
      cases c2 : aseq b d
      · cbv
      · cbv
        rewrite [h3]
        cbv
        rewrite [hr]
        cbv
  ·
    rw [lp_step (envV A) 91 (c0 := bd91) (lv := lvF91) rfl rfl]
    have hnle := hA.nleE; have hneq := hA.neqE
    have klt := hA.lt; have kle := hA.le; have keq := hA.eq; have knle := hA.nle; have kneq := hA.neq
    rw [lp_split (lpOf (envV A) 91 bd91) 4]
    generalize lpOf (envV A) 91 bd91 4 = L4 at e1 e2 e3 e4 e5 h2 h3 hr ⊢
    generalize lpOf (envV A) 91 bd91 = LP
    generalize evl (envV A) = E at e1 e2 e3 e4 e5 h2 h3 hr ⊢
    obtain ⟨aadd, asub, amul, arem, aquo, awr, ashr, aeq, alt, ale, aseq, aslt, acat, acut, asiz, aat, anle, aneq, afit⟩ := A
    simp only at hnle hneq
    subst hnle hneq
    simp only at klt kle keq knle kneq
    try simp only at h2 h3 hr
    conv at e1 => lhs; cbv
    conv at e2 => lhs; cbv
    conv at e3 => lhs; cbv
    conv at e4 => lhs; cbv
    conv at e5 => lhs; cbv
    cbv
    rewrite [h2]
    cbv
    rewrite [e1]
    cbv
    rewrite [e4]
    cbv
    cases c1 : aseq a c
    · cbv
    · cbv
      cases c2 : aseq b d
      · cbv
      · cbv
        rewrite [h3]
        cbv
        rewrite [hr]
        cbv
  ·
    rw [lp_step (envV A) 91 (c0 := bd91) (lv := lvF91) rfl rfl]
    have hnle := hA.nleE; have hneq := hA.neqE
    have klt := hA.lt; have kle := hA.le; have keq := hA.eq; have knle := hA.nle; have kneq := hA.neq
    rw [lp_split (lpOf (envV A) 91 bd91) 4]
    generalize lpOf (envV A) 91 bd91 4 = L4 at e1 e2 e3 e4 e5 h2 h3 hr ⊢
    generalize lpOf (envV A) 91 bd91 = LP
    generalize evl (envV A) = E at e1 e2 e3 e4 e5 h2 h3 hr ⊢
    obtain ⟨aadd, asub, amul, arem, aquo, awr, ashr, aeq, alt, ale, aseq, aslt, acat, acut, asiz, aat, anle, aneq, afit⟩ := A
    simp only at hnle hneq
    subst hnle hneq
    simp only at klt kle keq knle kneq
    try simp only at h2 h3 hr
    conv at e1 => lhs; cbv
    conv at e2 => lhs; cbv
    conv at e3 => lhs; cbv
    conv at e4 => lhs; cbv
    conv at e5 => lhs; cbv
    cbv
    rewrite [h2]
    cbv
    rewrite [e1]
    cbv
    rewrite [e4]
    cbv
    cases c1 : aseq a c
    · cbv
    · cbv
      cases c2 : aseq b d
      · cbv
      · cbv
  ·
    rw [lp_step (envV A) 91 (c0 := bd91) (lv := lvF91) rfl rfl]
    have hnle := hA.nleE; have hneq := hA.neqE
    have klt := hA.lt; have kle := hA.le; have keq := hA.eq; have knle := hA.nle; have kneq := hA.neq
    rw [lp_split (lpOf (envV A) 91 bd91) 4]
    generalize lpOf (envV A) 91 bd91 4 = L4 at e1 e2 e3 e4 e5 h2 h3 hr ⊢
    generalize lpOf (envV A) 91 bd91 = LP
    generalize evl (envV A) = E at e1 e2 e3 e4 e5 h2 h3 hr ⊢
    obtain ⟨aadd, asub, amul, arem, aquo, awr, ashr, aeq, alt, ale, aseq, aslt, acat, acut, asiz, aat, anle, aneq, afit⟩ := A
    simp only at hnle hneq
    subst hnle hneq
    simp only at klt kle keq knle kneq
    try simp only at h2 h3 hr
    conv at e1 => lhs; cbv
    conv at e2 => lhs; cbv
    conv at e3 => lhs; cbv
    conv at e4 => lhs; cbv
    conv at e5 => lhs; cbv
    cbv
    rewrite [h2]
    cbv
    rewrite [e1]
    cbv
    rewrite [e4]
    cbv
    cases c1 : aseq a c
    · cbv
    · cbv
      cases c2 : aseq b d
      · cbv
      · cbv
  ·
    rw [lp_step (envV A) 91 (c0 := bd91) (lv := lvF91) rfl rfl]
    have hnle := hA.nleE; have hneq := hA.neqE
    have klt := hA.lt; have kle := hA.le; have keq := hA.eq; have knle := hA.nle; have kneq := hA.neq
    rw [lp_split (lpOf (envV A) 91 bd91) 4]
    generalize lpOf (envV A) 91 bd91 4 = L4 at e1 e2 e3 e4 e5 h2 h3 hr ⊢
    generalize lpOf (envV A) 91 bd91 = LP
    generalize evl (envV A) = E at e1 e2 e3 e4 e5 h2 h3 hr ⊢
    obtain ⟨aadd, asub, amul, arem, aquo, awr, ashr, aeq, alt, ale, aseq, aslt, acat, acut, asiz, aat, anle, aneq, afit⟩ := A
    simp only at hnle hneq
    subst hnle hneq
    simp only at klt kle keq knle kneq
    try simp only at h2 h3 hr
    conv at e1 => lhs; cbv
    conv at e2 => lhs; cbv
    conv at e3 => lhs; cbv
    conv at e4 => lhs; cbv
    conv at e5 => lhs; cbv
    cbv
    rewrite [h2]
    cbv
    rewrite [e1]
    cbv
    rewrite [e4]
    cbv
    cases c1 : aseq a c
    · cbv
    · cbv
      cases c2 : aseq b d
      · cbv
      · cbv
        rewrite [h3]
        cbv
        rewrite [hr]
        cbv
theorem lp_attr_Equal_end (h2 : A.lt (.ofNat i) (.ofNat n) = false) :
    lpOf (envV A) 91 bd91 4 (stE xs ys p q n i) = some (.code (.exit 0) (stEe xs ys p q n i)) := by
  unfold stE stEe
  rcases hp with rfl | rfl <;> rcases hq with rfl | rfl
  ·
    rw [lp_step (envV A) 91 (c0 := bd91) (lv := lvF91) rfl rfl]
    have hnle := hA.nleE; have hneq := hA.neqE
    have klt := hA.lt; have kle := hA.le; have keq := hA.eq; have knle := hA.nle; have kneq := hA.neq
    generalize lpOf (envV A) 91 bd91 = LP
    generalize evl (envV A) = E at h2 ⊢
    obtain ⟨aadd, asub, amul, arem, aquo, awr, ashr, aeq, alt, ale, aseq, aslt, acat, acut, asiz, aat, anle, aneq, afit⟩ := A
    simp only at hnle hneq
    subst hnle hneq
    simp only at klt kle keq knle kneq
    try simp only at h2
    cbv
    rewrite [h2]
    cbv
  ·
    rw [lp_step (envV A) 91 (c0 := bd91) (lv := lvF91) rfl rfl]
    have hnle := hA.nleE; have hneq := hA.neqE
    have klt := hA.lt; have kle := hA.le; have keq := hA.eq; have knle := hA.nle; have kneq := hA.neq
    generalize lpOf (envV A) 91 bd91 = LP
    generalize evl (envV A) = E at h2 ⊢
    obtain ⟨aadd, asub, amul, arem, aquo, awr, ashr, aeq, alt, ale, aseq, aslt, acat, acut, asiz, aat, anle, aneq, afit⟩ := A
    simp only at hnle hneq
    subst hnle hneq
    simp only at klt kle keq knle kneq
    try simp only at h2
    cbv
    rewrite [h2]
    cbv
  ·
    rw [lp_step (envV A) 91 (c0 := bd91) (lv := lvF91) rfl rfl]
    have hnle := hA.nleE; have hneq := hA.neqE
    have klt := hA.lt; have kle := hA.le; have keq := hA.eq; have knle := hA.nle; have kneq := hA.neq
    generalize lpOf (envV A) 91 bd91 = LP
    generalize evl (envV A) = E at h2 ⊢
    obtain ⟨aadd, asub, amul, arem, aquo, awr, ashr, aeq, alt, ale, aseq, aslt, acat, acut, asiz, aat, anle, aneq, afit⟩ := A
    simp only at hnle hneq
    subst hnle hneq
    simp only at klt kle keq knle kneq
    try simp only at h2
    cbv
    rewrite [h2]
    cbv
  ·
    rw [lp_step (envV A) 91 (c0 := bd91) (lv := lvF91) rfl rfl]
    have hnle := hA.nleE; have hneq := hA.neqE
    have klt := hA.lt; have kle := hA.le; have keq := hA.eq; have knle := hA.nle; have kneq := hA.neq
    generalize lpOf (envV A) 91 bd91 = LP
    generalize evl (envV A) = E at h2 ⊢
    obtain ⟨aadd, asub, amul, arem, aquo, awr, ashr, aeq, alt, ale, aseq, aslt, acat, acut, asiz, aat, anle, aneq, afit⟩ := A
    simp only at hnle hneq
    subst hnle hneq
    simp only at klt kle keq knle kneq
    try simp only at h2
    cbv
    rewrite [h2]
    cbv
theorem eq_attr_Same (s : Bool) (e3 : xs.length = n) (e5 : ys.length = m) (h1 : A.eq (.ofNat n) (.ofNat m) = true → lpOf (envV A) 91 bd91 4 (stE xs ys p q n 0) = bif s then some (.code (.exit 0) (stEe xs ys p q n n)) else some (.code .ret stE0)) :
    evl (envV A) (.call 91 [.sl 3 xs p, .sl 3 ys q] []) = some (.ret (.s (.bool (A.eq (.ofNat n) (.ofNat m) && s))) []) := by
  unfold stE stEe stE0 at h1
  simp only [show Int.ofNat 0 = 0 from rfl] at h1
  cases h0 : A.eq (.ofNat n) (.ofNat m) with
  | false =>
    clear h1
    rcases hp with rfl | rfl <;> rcases hq with rfl | rfl
    ·
      rw [evl_fn (envV A) 91 _ _ (fn := Try.f91) (c := bd91) (lv := lvF91) rfl rfl rfl rfl rfl rfl]
      have hnle := hA.nleE; have hneq := hA.neqE
      have klt := hA.lt; have kle := hA.le; have keq := hA.eq; have knle := hA.nle; have kneq := hA.neq
      generalize lpOf (envV A) 91 bd91 = LP
      generalize evl (envV A) = E at e3 e5 h0 ⊢
      obtain ⟨aadd, asub, amul, arem, aquo, awr, ashr, aeq, alt, ale, aseq, aslt, acat, acut, asiz, aat, anle, aneq, afit⟩ := A
      simp only at hnle hneq
      subst hnle hneq
      simp only at klt kle keq knle kneq
      try simp only at h0
      conv at e3 => lhs; cbv
      conv at e5 => lhs; cbv
      cbv
      rewrite [e3]
      cbv
      rewrite [e5]
      cbv
      rewrite [h0]
      cbv
    ·
      rw [evl_fn (envV A) 91 _ _ (fn := Try.f91) (c := bd91) (lv := lvF91) rfl rfl rfl rfl rfl rfl]
      have hnle := hA.nleE; have hneq := hA.neqE
      have klt := hA.lt; have kle := hA.le; have keq := hA.eq; have knle := hA.nle; have kneq := hA.neq
      generalize lpOf (envV A) 91 bd91 = LP
      generalize evl (envV A) = E at e3 e5 h0 ⊢
      obtain ⟨aadd, asub, amul, arem, aquo, awr, ashr, aeq, alt, ale, aseq, aslt, acat, acut, asiz, aat, anle, aneq, afit⟩ := A
      simp only at hnle hneq
      subst hnle hneq
      simp only at klt kle keq knle kneq
      try simp only at h0
      conv at e3 => lhs; cbv
      conv at e5 => lhs; cbv
      cbv
      rewrite [e3]
      cbv
      rewrite [e5]
      cbv
      rewrite [h0]
      cbv
    ·
      rw [evl_fn (envV A) 91 _ _ (fn := Try.f91) (c := bd91) (lv := lvF91) rfl rfl rfl rfl rfl rfl]
      have hnle := hA.nleE; have hneq := hA.neqE
      have klt := hA.lt; have kle := hA.le; have keq := hA.eq; have knle := hA.nle; have kneq := hA.neq
      generalize lpOf (envV A) 91 bd91 = LP
      generalize evl (envV A) = E at e3 e5 h0 ⊢
      obtain ⟨aadd, asub, amul, arem, aquo, awr, ashr, aeq, alt, ale, aseq, aslt, acat, acut, asiz, aat, anle, aneq, afit⟩ := A
      simp only at hnle hneq
      subst hnle hneq
      simp only at klt kle keq knle kneq
      try simp only at h0
      conv at e3 => lhs; cbv
      conv at e5 => lhs; cbv
      cbv
      rewrite [e3]
      cbv
      rewrite [e5]
      cbv
      rewrite [h0]
      cbv
    ·
      rw [evl_fn (envV A) 91 _ _ (fn := Try.f91) (c := bd91) (lv := lvF91) rfl rfl rfl rfl rfl rfl]
      have hnle := hA.nleE; have hneq := hA.neqE
      have klt := hA.lt; have kle := hA.le; have keq := hA.eq; have knle := hA.nle; have kneq := hA.neq
      generalize lpOf (envV A) 91 bd91 = LP
      generalize evl (envV A) = E at e3 e5 h0 ⊢
      obtain ⟨aadd, asub, amul, arem, aquo, awr, ashr, aeq, alt, ale, aseq, aslt, acat, acut, asiz, aat, anle, aneq, afit⟩ := A
      simp only at hnle hneq
      subst hnle hneq
      simp only at klt kle keq knle kneq
      try simp only at h0
      conv at e3 => lhs; cbv
      conv at e5 => lhs; cbv
      cbv
      rewrite [e3]
      cbv
      rewrite [e5]
      cbv
      rewrite [h0]
      cbv
  | true =>
    have h2 := h1 h0
    clear h1
    rcases hp with rfl | rfl <;> rcases hq with rfl | rfl <;> cases s <;> simp only [cond_true, cond_false] at h2
    ·
      rw [evl_fn (envV A) 91 _ _ (fn := Try.f91) (c := bd91) (lv := lvF91) rfl rfl rfl rfl rfl rfl]
      have hnle := hA.nleE; have hneq := hA.neqE
      have klt := hA.lt; have kle := hA.le; have keq := hA.eq; have knle := hA.nle; have kneq := hA.neq
      rw [lp_split (lpOf (envV A) 91 bd91) 4]
      generalize lpOf (envV A) 91 bd91 4 = L4 at e3 e5 h0 h2 ⊢
      generalize lpOf (envV A) 91 bd91 = LP
      generalize evl (envV A) = E at e3 e5 h0 h2 ⊢
      obtain ⟨aadd, asub, amul, arem, aquo, awr, ashr, aeq, alt, ale, aseq, aslt, acat, acut, asiz, aat, anle, aneq, afit⟩ := A
      simp only at hnle hneq
      subst hnle hneq
      simp only at klt kle keq knle kneq
      try simp only at h0 h2
      conv at e3 => lhs; cbv
      conv at e5 => lhs; cbv
      cbv
      rewrite [e3]
      cbv
      rewrite [e5]
      cbv
      rewrite [h0]
      cbv
      rewrite [e3]
      cbv
      rewrite [h2]
      cbv
    ·
      rw [evl_fn (envV A) 91 _ _ (fn := Try.f91) (c := bd91) (lv := lvF91) rfl rfl rfl rfl rfl rfl]
      have hnle := hA.nleE; have hneq := hA.neqE
      have klt := hA.lt; have kle := hA.le; have keq := hA.eq; have knle := hA.nle; have kneq := hA.neq
      rw [lp_split (lpOf (envV A) 91 bd91) 4]
      generalize lpOf (envV A) 91 bd91 4 = L4 at e3 e5 h0 h2 ⊢
      generalize lpOf (envV A) 91 bd91 = LP
      generalize evl (envV A) = E at e3 e5 h0 h2 ⊢
      obtain ⟨aadd, asub, amul, arem, aquo, awr, ashr, aeq, alt, ale, aseq, aslt, acat, acut, asiz, aat, anle, aneq, afit⟩ := A
      simp only at hnle hneq
      subst hnle hneq
      simp only at klt kle keq knle kneq
      try simp only at h0 h2
      conv at e3 => lhs; cbv
      conv at e5 => lhs; cbv
      cbv
      rewrite [e3]
      cbv
      rewrite [e5]
      cbv
      rewrite [h0]
      cbv
      rewrite [e3]
      cbv
      rewrite [h2]
      cbv
    ·
      rw [evl_fn (envV A) 91 _ _ (fn := Try.f91) (c := bd91) (lv := lvF91) rfl rfl rfl rfl rfl rfl]
      have hnle := hA.nleE; have hneq := hA.neqE
      have klt := hA.lt; have kle := hA.le; have keq := hA.eq; have knle := hA.nle; have kneq := hA.neq
      rw [lp_split (lpOf (envV A) 91 bd91) 4]
      generalize lpOf (envV A) 91 bd91 4 = L4 at e3 e5 h0 h2 ⊢
      generalize lpOf (envV A) 91 bd91 = LP
      generalize evl (envV A) = E at e3 e5 h0 h2 ⊢
      obtain ⟨aadd, asub, amul, arem, aquo, awr, ashr, aeq, alt, ale, aseq, aslt, acat, acut, asiz, aat, anle, aneq, afit⟩ := A
      simp only at hnle hneq
      subst hnle hneq
      simp only at klt kle keq knle kneq
      try simp only at h0 h2
      conv at e3 => lhs; cbv
      conv at e5 => lhs; cbv
      cbv
      rewrite [e3]
      cbv
      rewrite [e5]
      cbv
      rewrite [h0]
      cbv
      rewrite [e3]
      cbv
      rewrite [h2]
      cbv
    ·
      rw [evl_fn (envV A) 91 _ _ (fn := Try.f91) (c := bd91) (lv := lvF91) rfl rfl rfl rfl rfl rfl]
      have hnle := hA.nleE; have hneq := hA.neqE
      have klt := hA.lt; have kle := hA.le; have keq := hA.eq; have knle := hA.nle; have kneq := hA.neq
      rw [lp_split (lpOf (envV A) 91 bd91) 4]
      generalize lpOf (envV A) 91 bd91 4 = L4 at e3 e5 h0 h2 ⊢
      generalize lpOf (envV A) 91 bd91 = LP
      generalize evl (envV A) = E at e3 e5 h0 h2 ⊢
      obtain ⟨aadd, asub, amul, arem, aquo, awr, ashr, aeq, alt, ale, aseq, aslt, acat, acut, asiz, aat, anle, aneq, afit⟩ := A
      simp only at hnle hneq
      subst hnle hneq
      simp only at klt kle keq knle kneq
      try simp only at h0 h2
      conv at e3 => lhs; cbv
      conv at e5 => lhs; cbv
      cbv
      rewrite [e3]
      cbv
      rewrite [e5]
      cbv
      rewrite [h0]
      cbv
      rewrite [e3]
      cbv
      rewrite [h2]
      cbv
    ·
      rw [evl_fn (envV A) 91 _ _ (fn := Try.f91) (c := bd91) (lv := lvF91) rfl rfl rfl rfl rfl rfl]
      have hnle := hA.nleE; have hneq := hA.neqE
      have klt := hA.lt; have kle := hA.le; have keq := hA.eq; have knle := hA.nle; have kneq := hA.neq
      rw [lp_split (lpOf (envV A) 91 bd91) 4]
      generalize lpOf (envV A) 91 bd91 4 = L4 at e3 e5 h0 h2 ⊢
      generalize lpOf (envV A) 91 bd91 = LP
      generalize evl (envV A) = E at e3 e5 h0 h2 ⊢
      obtain ⟨aadd, asub, amul, arem, aquo, awr, ashr, aeq, alt, ale, aseq, aslt, acat, acut, asiz, aat, anle, aneq, afit⟩ := A
      simp only at hnle hneq
      subst hnle hneq
      simp only at klt kle keq knle kneq
      try simp only at h0 h2
      conv at e3 => lhs; cbv
      conv at e5 => lhs; cbv
      cbv
      rewrite [e3]
      cbv
      rewrite [e5]
      cbv
      rewrite [h0]
      cbv
      rewrite [e3]
      cbv
      rewrite [h2]
      cbv
    ·
      rw [evl_fn (envV A) 91 _ _ (fn := Try.f91) (c := bd91) (lv := lvF91) rfl rfl rfl rfl rfl rfl]
      have hnle := hA.nleE; have hneq := hA.neqE
      have klt := hA.lt; have kle := hA.le; have keq := hA.eq; have knle := hA.nle; have kneq := hA.neq
      rw [lp_split (lpOf (envV A) 91 bd91) 4]
      generalize lpOf (envV A) 91 bd91 4 = L4 at e3 e5 h0 h2 ⊢
      generalize lpOf (envV A) 91 bd91 = LP
      generalize evl (envV A) = E at e3 e5 h0 h2 ⊢
      obtain ⟨aadd, asub, amul, arem, aquo, awr, ashr, aeq, alt, ale, aseq, aslt, acat, acut, asiz, aat, anle, aneq, afit⟩ := A
      simp only at hnle hneq
      subst hnle hneq
      simp only at klt kle keq knle kneq
      try simp only at h0 h2
      conv at e3 => lhs; cbv
      conv at e5 => lhs; cbv
      cbv
      rewrite [e3]
      cbv
      rewrite [e5]
      cbv
      rewrite [h0]
      cbv
      rewrite [e3]
      cbv
      rewrite [h2]
      cbv
    ·
      rw [evl_fn (envV A) 91 _ _ (fn := Try.f91) (c := bd91) (lv := lvF91) rfl rfl rfl rfl rfl rfl]
      have hnle := hA.nleE; have hneq := hA.neqE
      have klt := hA.lt; have kle := hA.le; have keq := hA.eq; have knle := hA.nle; have kneq := hA.neq
      rw [lp_split (lpOf (envV A) 91 bd91) 4]
      generalize lpOf (envV A) 91 bd91 4 = L4 at e3 e5 h0 h2 ⊢
      generalize lpOf (envV A) 91 bd91 = LP
      generalize evl (envV A) = E at e3 e5 h0 h2 ⊢
      obtain ⟨aadd, asub, amul, arem, aquo, awr, ashr, aeq, alt, ale, aseq, aslt, acat, acut, asiz, aat, anle, aneq, afit⟩ := A
      simp only at hnle hneq
      subst hnle hneq
      simp only at klt kle keq knle kneq
      try simp only at h0 h2
      conv at e3 => lhs; cbv
      conv at e5 => lhs; cbv
      cbv
      rewrite [e3]
      cbv
      rewrite [e5]
      cbv
      rewrite [h0]
      cbv
      rewrite [e3]
      cbv
      rewrite [h2]
      cbv
    ·
      rw [evl_fn (envV A) 91 _ _ (fn := Try.f91) (c := bd91) (lv := lvF91) rfl rfl rfl rfl rfl rfl]
      have hnle := hA.nleE; have hneq := hA.neqE
      have klt := hA.lt; have kle := hA.le; have keq := hA.eq; have knle := hA.nle; have kneq := hA.neq
      rw [lp_split (lpOf (envV A) 91 bd91) 4]
      generalize lpOf (envV A) 91 bd91 4 = L4 at e3 e5 h0 h2 ⊢
      generalize lpOf (envV A) 91 bd91 = LP
      generalize evl (envV A) = E at e3 e5 h0 h2 ⊢
      obtain ⟨aadd, asub, amul, arem, aquo, awr, ashr, aeq, alt, ale, aseq, aslt, acat, acut, asiz, aat, anle, aneq, afit⟩ := A
      simp only at hnle hneq
      subst hnle hneq
      simp only at klt kle keq knle kneq
      try simp only at h0 h2
      conv at e3 => lhs; cbv
      conv at e5 => lhs; cbv
      cbv
      rewrite [e3]
      cbv
      rewrite [e5]
      cbv
      rewrite [h0]
      cbv
      rewrite [e3]
      cbv
      rewrite [h2]
      cbv
theorem eq_attr_Same0 (s : Bool) (e3 : xs.length = n) (e5 : ys.length = m) (h1 : evl (envV A) (.call 91 [.sl 3 xs p, .sl 3 ys q] []) = some (.ret (.s (.bool s)) [])) :
    evl (envV A) (.call 65 [.sl 3 xs p, .sl 3 ys q] []) = some (.ret (.s (.bool s)) []) := by
  rcases hp with rfl | rfl <;> rcases hq with rfl | rfl
  ·
    rw [evl_fn (envV A) 65 _ _ (fn := Try.f65) (c := bd65) (lv := lvF65) rfl rfl rfl rfl rfl rfl]
    have hnle := hA.nleE; have hneq := hA.neqE
    have klt := hA.lt; have kle := hA.le; have keq := hA.eq; have knle := hA.nle; have kneq := hA.neq
    generalize lpOf (envV A) 65 bd65 = LP
    generalize evl (envV A) = E at e3 e5 h1 ⊢
    obtain ⟨aadd, asub, amul, arem, aquo, awr, ashr, aeq, alt, ale, aseq, aslt, acat, acut, asiz, aat, anle, aneq, afit⟩ := A
    simp only at hnle hneq
    subst hnle hneq
    simp only at klt kle keq knle kneq
    try simp only at h1
    conv at e3 => lhs; cbv
    conv at e5 => lhs; cbv
    cbv
    rewrite [h1]
    cbv
  ·
    rw [evl_fn (envV A) 65 _ _ (fn := Try.f65) (c := bd65) (lv := lvF65) rfl rfl rfl rfl rfl rfl]
    have hnle := hA.nleE; have hneq := hA.neqE
    have klt := hA.lt; have kle := hA.le; have keq := hA.eq; have knle := hA.nle; have kneq := hA.neq
    generalize lpOf (envV A) 65 bd65 = LP
    generalize evl (envV A) = E at e3 e5 h1 ⊢
    obtain ⟨aadd, asub, amul, arem, aquo, awr, ashr, aeq, alt, ale, aseq, aslt, acat, acut, asiz, aat, anle, aneq, afit⟩ := A
    simp only at hnle hneq
    subst hnle hneq
    simp only at klt kle keq knle kneq
    try simp only at h1
    conv at e3 => lhs; cbv
    conv at e5 => lhs; cbv
    cbv
    rewrite [h1]
    cbv
  ·
    rw [evl_fn (envV A) 65 _ _ (fn := Try.f65) (c := bd65) (lv := lvF65) rfl rfl rfl rfl rfl rfl]
    have hnle := hA.nleE; have hneq := hA.neqE
    have klt := hA.lt; have kle := hA.le; have keq := hA.eq; have knle := hA.nle; have kneq := hA.neq
    generalize lpOf (envV A) 65 bd65 = LP
    generalize evl (envV A) = E at e3 e5 h1 ⊢
    obtain ⟨aadd, asub, amul, arem, aquo, awr, ashr, aeq, alt, ale, aseq, aslt, acat, acut, asiz, aat, anle, aneq, afit⟩ := A
    simp only at hnle hneq
    subst hnle hneq
    simp only at klt kle keq knle kneq
    try simp only at h1
    conv at e3 => lhs; cbv
    conv at e5 => lhs; cbv
    cbv
    rewrite [h1]
    cbv
  ·
    rw [evl_fn (envV A) 65 _ _ (fn := Try.f65) (c := bd65) (lv := lvF65) rfl rfl rfl rfl rfl rfl]
    have hnle := hA.nleE; have hneq := hA.neqE
    have klt := hA.lt; have kle := hA.le; have keq := hA.eq; have knle := hA.nle; have kneq := hA.neq
    generalize lpOf (envV A) 65 bd65 = LP
    generalize evl (envV A) = E at e3 e5 h1 ⊢
    obtain ⟨aadd, asub, amul, arem, aquo, awr, ashr, aeq, alt, ale, aseq, aslt, acat, acut, asiz, aat, anle, aneq, afit⟩ := A
    simp only at hnle hneq
    subst hnle hneq
    simp only at klt kle keq knle kneq
    try simp only at h1
    conv at e3 => lhs; cbv
    conv at e5 => lhs; cbv
    cbv
    rewrite [h1]
    cbv
theorem lp_ref01_Same {r : Option Res} (e1 : lget xs i = some (.agg [.s (.string a), .s (.string b), .s (.bool st)])) (e2 : Nat.ble (Nat.succ i) n = true) (e3 : xs.length = n) (e4 : lget ys i = some (.agg [.s (.string c), .s (.string d), .s (.bool su)])) (e5 : ys.length = n) (h2 : A.lt (.ofNat i) (.ofNat n) = true) (h3 : A.add .i64 (.ofNat i) 1 = .ofNat (Nat.succ i))
    (hr : lpOf (envV A) 66 bd66 4 (stD xs ys p q (Nat.succ i)) = r) :
    lpOf (envV A) 66 bd66 4 (stD xs ys p q i) = (bif A.seq a c && (A.seq b d && (st == su)) then r else some (.code .ret stE0)) := by
  unfold stD at hr ⊢
  unfold stE0
  rcases hp with rfl | rfl <;> rcases hq with rfl | rfl <;> cases st <;> cases su
  ·
    rw [lp_step (envV A) 66 (c0 := bd66) (lv := lvF66) rfl rfl]
    have hnle := hA.nleE; have hneq := hA.neqE
    have klt := hA.lt; have kle := hA.le; have keq := hA.eq; have knle := hA.nle; have kneq := hA.neq
    rw [lp_split (lpOf (envV A) 66 bd66) 4]
    generalize lpOf (envV A) 66 bd66 4 = L4 at e1 e2 e3 e4 e5 h2 h3 hr ⊢
    generalize lpOf (envV A) 66 bd66 = LP
    generalize evl (envV A) = E at e1 e2 e3 e4 e5 h2 h3 hr ⊢
    obtain ⟨aadd, asub, amul, arem, aquo, awr, ashr, aeq, alt, ale, aseq, aslt, acat, acut, asiz, aat, anle, aneq, afit⟩ := A
    simp only at hnle hneq
    subst hnle hneq
    simp only at klt kle keq knle kneq
    try simp only at h2 h3 hr
    conv at e1 => lhs; cbv
    conv at e2 => lhs; cbv
    conv at e3 => lhs; cbv
    conv at e4 => lhs; cbv
    conv at e5 => lhs; cbv
    cbv
    rewrite [e3]
    cbv
    rewrite [h2]
    cbv
    rewrite [e1]
    cbv
    rewrite [e4]
    cbv
    cases c1 : aseq a c
    · cbv
    · cbv
      cases c2 : aseq b d
      · cbv
      · cbv
        rewrite [h3]
        cbv
        rewrite [hr]
        cbv
  ·
    rw [lp_step (envV A) 66 (c0 := bd66) (lv := lvF66) rfl rfl]
    have hnle := hA.nleE; have hneq := hA.neqE
    have klt := hA.lt; have kle := hA.le; have keq := hA.eq; have knle := hA.nle; have kneq := hA.neq
    rw [lp_split (lpOf (envV A) 66 bd66) 4]
    generalize lpOf (envV A) 66 bd66 4 = L4 at e1 e2 e3 e4 e5 h2 h3 hr ⊢
    generalize lpOf (envV A) 66 bd66 = LP
    generalize evl (envV A) = E at e1 e2 e3 e4 e5 h2 h3 hr ⊢
    obtain ⟨aadd, asub, amul, arem, aquo, awr, ashr, aeq, alt, ale, aseq, aslt, acat, acut, asiz, aat, anle, aneq, afit⟩ := A
    simp only at hnle hneq
    subst hnle hneq
    simp only at klt kle keq knle kneq
    try simp only at h2 h3 hr
    conv at e1 => lhs; cbv
    conv at e2 => lhs; cbv
    conv at e3 => lhs; cbv
    conv at e4 => lhs; cbv
    conv at e5 => lhs; cbv
    cbv
    rewrite [e3]
    cbv
    rewrite [h2]
    cbv
    rewrite [e1]
    cbv
    rewrite [e4]
    cbv
    cases c1 : aseq a c
    · cbv
    · cbv
      cases c2 : aseq b d
      · cbv
      · cbv
  ·
    rw [lp_step (envV A) 66 (c0 := bd66) (lv := lvF66) rfl rfl]
    have hnle := hA.nleE; have hneq := hA.neqE
    have klt := hA.lt; have kle := hA.le; have keq := hA.eq; have knle := hA.nle; have kneq := hA.neq
    rw [lp_split (lpOf (envV A) 66 bd66) 4]
    generalize lpOf (envV A) 66 bd66 4 = L4 at e1 e2 e3 e4 e5 h2 h3 hr ⊢
    generalize lpOf (envV A) 66 bd66 = LP
    generalize evl (envV A) = E at e1 e2 e3 e4 e5 h2 h3 hr ⊢
    obtain ⟨aadd, asub, amul, arem, aquo, awr, ashr, aeq, alt, ale, aseq, aslt, acat, acut, asiz, aat, anle, aneq, afit⟩ := A
    simp only at hnle hneq
    subst hnle hneq
    simp only at klt kle keq knle kneq
    try simp only at h2 h3 hr
    conv at e1 => lhs; cbv
    conv at e2 => lhs; cbv
    conv at e3 => lhs; cbv
    conv at e4 => lhs; cbv
    conv at e5 => lhs; cbv
    cbv
    rewrite [e3]
    cbv
    rewrite [h2]
    cbv
    rewrite [e1]
    cbv
    rewrite [e4]
    cbv
    cases c1 : aseq a c
    · cbv
    · cbv
      cases c2 : aseq b d
      · cbv
      · cbv
  ·
    rw [lp_step (envV A) 66 (c0 := bd66) (lv := lvF66) rfl rfl]
    have hnle := hA.nleE; have hneq := hA.neqE
    have klt := hA.lt; have kle := hA.le; have keq := hA.eq; have knle := hA.nle; have kneq := hA.neq
    rw [lp_split (lpOf (envV A) 66 bd66) 4]
    generalize lpOf (envV A) 66 bd66 4 = L4 at e1 e2 e3 e4 e5 h2 h3 hr ⊢
    generalize lpOf (envV A) 66 bd66 = LP
    generalize evl (envV A) = E at e1 e2 e3 e4 e5 h2 h3 hr ⊢
    obtain ⟨aadd, asub, amul, arem, aquo, awr, ashr, aeq, alt, ale, aseq, aslt, acat, acut, asiz, aat, anle, aneq, afit⟩ := A
    simp only at hnle hneq
    subst hnle hneq
    simp only at klt kle keq knle kneq
    try simp only at h2 h3 hr
    conv at e1 => lhs; cbv
    conv at e2 => lhs; cbv
    conv at e3 => lhs; cbv
    conv at e4 => lhs; cbv
    conv at e5 => lhs; cbv
    cbv
    rewrite [e3]
    cbv
    rewrite [h2]
    cbv
    rewrite [e1]
    cbv
    rewrite [e4]
    cbv
    cases c1 : aseq a c
    · cbv
    · cbv
      cases c2 : aseq b d
      · cbv
      · cbv
        rewrite [h3]
        cbv
        rewrite [hr]
        cbv
  ·
    rw [lp_step (envV A) 66 (c0 := bd66) (lv := lvF66) rfl rfl]
    have hnle := hA.nleE; have hneq := hA.neqE
    have klt := hA.lt; have kle := hA.le; have keq := hA.eq; have knle := hA.nle; have kneq := hA.neq
    rw [lp_split (lpOf (envV A) 66 bd66) 4]
    generalize lpOf (envV A) 66 bd66 4 = L4 at e1 e2 e3 e4 e5 h2 h3 hr ⊢
    generalize lpOf (envV A) 66 bd66 = LP
    generalize evl (envV A) = E at e1 e2 e3 e4 e5 h2 h3 hr ⊢
    obtain ⟨aadd, asub, amul, arem, aquo, awr, ashr, aeq, alt, ale, aseq, aslt, acat, acut, asiz, aat, anle, aneq, afit⟩ := A
    simp only at hnle hneq
    subst hnle hneq
    simp only at klt kle keq knle kneq
    try simp only at h2 h3 hr
    conv at e1 => lhs; cbv
    conv at e2 => lhs; cbv
    conv at e3 => lhs; cbv
    conv at e4 => lhs; cbv
    conv at e5 => lhs; cbv
    cbv
    rewrite [e3]
    cbv
    rewrite [h2]
    cbv
    rewrite [e1]
    cbv
    rewrite [e4]
    cbv
    cases c1 : aseq a c
    · cbv
    · cbv
      cases c2 : aseq b d
      · cbv
      · cbv
        rewrite [h3]
        cbv
        rewrite [hr]
        cbv
  ·
    rw [lp_step (envV A) 66 (c0 := bd66) (lv := lvF66) rfl rfl]
    have hnle := hA.nleE; have hneq := hA.neqE
    have klt := hA.lt; have kle := hA.le; have keq := hA.eq; have knle := hA.nle; have kneq := hA.neq
    rw [lp_split (lpOf (envV A) 66 bd66) 4]
    generalize lpOf (envV A) 66 bd66 4 = L4 at e1 e2 e3 e4 e5 h2 h3 hr ⊢
    generalize lpOf (envV A) 66 bd66 = LP
    generalize evl (envV A) = E at e1 e2 e3 e4 e5 h2 h3 hr ⊢
    obtain ⟨aadd, asub, amul, arem, aquo, awr, ashr, aeq, alt, ale, aseq, aslt, acat, acut, asiz, aat, anle, aneq, afit⟩ := A
    simp only at hnle hneq
    subst hnle hneq
    simp only at klt kle keq knle kneq
    try simp only at h2 h3 hr
    conv at e1 => lhs; cbv
    conv at e2 => lhs; cbv
    conv at e3 => lhs; cbv
    conv at e4 => lhs; cbv
    conv at e5 => lhs; cbv
    cbv
    rewrite [e3]
    cbv
    rewrite [h2]
    cbv
    rewrite [e1]
    cbv
    rewrite [e4]
    cbv
    cases c1 : aseq a c
    · cbv
    · cbv
      cases c2 : aseq b d
      · cbv
      · cbv
  ·
    rw [lp_step (envV A) 66 (c0 := bd66) (lv := lvF66) rfl rfl]
    have hnle := hA.nleE; have hneq := hA.neqE
    have klt := hA.lt; have kle := hA.le; have keq := hA.eq; have knle := hA.nle; have kneq := hA.neq
    rw [lp_split (lpOf (envV A) 66 bd66) 4]
    generalize lpOf (envV A) 66 bd66 4 = L4 at e1 e2 e3 e4 e5 h2 h3 hr ⊢
    generalize lpOf (envV A) 66 bd66 = LP
    generalize evl (envV A) = E at e1 e2 e3 e4 e5 h2 h3 hr ⊢
    obtain ⟨aadd, asub, amul, arem, aquo, awr, ashr, aeq, alt, ale, aseq, aslt, acat, acut, asiz, aat, anle, aneq, afit⟩ := A
    simp only at hnle hneq
    subst hnle hneq
    simp only at klt kle keq knle kneq
    try simp only at h2 h3 hr
    conv at e1 => lhs; cbv
    conv at e2 => lhs; cbv
    conv at e3 => lhs; cbv
    conv at e4 => lhs; cbv
    conv at e5 => lhs; cbv
    cbv
    rewrite [e3]
    cbv
    rewrite [h2]
    cbv
    rewrite [e1]
    cbv
    rewrite [e4]
    cbv
    cases c1 : aseq a c
    · cbv
    · cbv
      cases c2 : aseq b d
      · cbv
      · cbv
  ·
    rw [lp_step (envV A) 66 (c0 := bd66) (lv := lvF66) rfl rfl]
    have hnle := hA.nleE; have hneq := hA.neqE
    have klt := hA.lt; have kle := hA.le; have keq := hA.eq; have knle := hA.nle; have kneq := hA.neq
    rw [lp_split (lpOf (envV A) 66 bd66) 4]
    generalize lpOf (envV A) 66 bd66 4 = L4 at e1 e2 e3 e4 e5 h2 h3 hr ⊢
    generalize lpOf (envV A) 66 bd66 = LP
    generalize evl (envV A) = E at e1 e2 e3 e4 e5 h2 h3 hr ⊢
    obtain ⟨aadd, asub, amul, arem, aquo, awr, ashr, aeq, alt, ale, aseq, aslt, acat, acut, asiz, aat, anle, aneq, afit⟩ := A
    simp only at hnle hneq
    subst hnle hneq
    simp only at klt kle keq knle kneq
    try simp only at h2 h3 hr
    conv at e1 => lhs; cbv
    conv at e2 => lhs; cbv
    conv at e3 => lhs; cbv
    conv at e4 => lhs; cbv
    conv at e5 => lhs; cbv
    cbv
    rewrite [e3]
    cbv
    rewrite [h2]
    cbv
    rewrite [e1]
    cbv
    rewrite [e4]
    cbv
    cases c1 : aseq a c
    · cbv
    · cbv
      cases c2 : aseq b d
      · cbv
      · cbv
        rewrite [h3]
        cbv
        rewrite [hr]
        cbv
  ·
    rw [lp_step (envV A) 66 (c0 := bd66) (lv := lvF66) rfl rfl]
    have hnle := hA.nleE; have hneq := hA.neqE
    have klt := hA.lt; have kle := hA.le; have keq := hA.eq; have knle := hA.nle; have kneq := hA.neq
    rw [lp_split (lpOf (envV A) 66 bd66) 4]
    generalize lpOf (envV A) 66 bd66 4 = L4 at e1 e2 e3 e4 e5 h2 h3 hr ⊢
    generalize lpOf (envV A) 66 bd66 = LP
    generalize evl (envV A) = E at e1 e2 e3 e4 e5 h2 h3 hr ⊢
    obtain ⟨aadd, asub, amul, arem, aquo, awr, ashr, aeq, alt, ale, aseq, aslt, acat, acut, asiz, aat, anle, aneq, afit⟩ := A
    simp only at hnle hneq
    subst hnle hneq
    simp only at klt kle keq knle kneq
    try simp only at h2 h3 hr
    conv at e1 => lhs; cbv
    conv at e2 => lhs; cbv
    conv at e3 => lhs; cbv
    conv at e4 => lhs; cbv
    conv at e5 => lhs; cbv
    cbv
    rewrite [e3]
    cbv
    rewrite [h2]
    cbv
    rewrite [e1]
    cbv
    rewrite [e4]
    cbv
    cases c1 : aseq a c
    · cbv
    · cbv
      cases c2 : aseq b d
      · cbv
      · cbv
        rewrite [h3]
        cbv
        rewrite [hr]
        cbv
  ·
    rw [lp_step (envV A) 66 (c0 := bd66) (lv := lvF66) rfl rfl]
    have hnle := hA.nleE; have hneq := hA.neqE
    have klt := hA.lt; have kle := hA.le; have keq := hA.eq; have knle := hA.nle; have kneq := hA.neq
    rw [lp_split (lpOf (envV A) 66 bd66) 4]
    generalize lpOf (envV A) 66 bd66 4 = L4 at e1 e2 e3 e4 e5 h2 h3 hr ⊢
    generalize lpOf (envV A) 66 bd66 = LP
    generalize evl (envV A) = E at e1 e2 e3 e4 e5 h2 h3 hr ⊢
    obtain ⟨aadd, asub, amul, arem, aquo, awr, ashr, aeq, alt, ale, aseq, aslt, acat, acut, asiz, aat, anle, aneq, afit⟩ := A
    simp only at hnle hneq
    subst hnle hneq
    simp only at klt kle keq knle kneq
    try simp only at h2 h3 hr
    conv at e1 => lhs; cbv
    conv at e2 => lhs; cbv
    conv at e3 => lhs; cbv
    conv at e4 => lhs; cbv
    conv at e5 => lhs; cbv
    cbv
    rewrite [e3]
    cbv
    rewrite [h2]
    cbv
    rewrite [e1]
    cbv
    rewrite [e4]
    cbv
    cases c1 : aseq a c
    · cbv
    · cbv
      cases c2 : aseq b d
      · cbv
      · cbv
  ·
    rw [lp_step (envV A) 66 (c0 := bd66) (lv := lvF66) rfl rfl]
    have hnle := hA.nleE; have hneq := hA.neqE
    have klt := hA.lt; have kle := hA.le; have keq := hA.eq; have knle := hA.nle; have kneq := hA.neq
    rw [lp_split (lpOf (envV A) 66 bd66) 4]
    generalize lpOf (envV A) 66 bd66 4 = L4 at e1 e2 e3 e4 e5 h2 h3 hr ⊢
    generalize lpOf (envV A) 66 bd66 = LP
    generalize evl (envV A) = E at e1 e2 e3 e4 e5 h2 h3 hr ⊢
    obtain ⟨aadd, asub, amul, arem, aquo, awr, ashr, aeq, alt, ale, aseq, aslt, acat, acut, asiz, aat, anle, aneq, afit⟩ := A
    simp only at hnle hneq
    subst hnle hneq
    simp only at klt kle keq knle kneq
    try simp only at h2 h3 hr
    conv at e1 => lhs; cbv
    conv at e2 => lhs; cbv
    conv at e3 => lhs; cbv
    conv at e4 => lhs; cbv
    conv at e5 => lhs; cbv
    cbv
    rewrite [e3]
    cbv
    rewrite [h2]
    cbv
    rewrite [e1]
    cbv
    rewrite [e4]
    cbv
    cases c1 : aseq a c
    · cbv
    · cbv
      cases c2 : aseq b d
      · cbv
      · cbv
  ·
    rw [lp_step (envV A) 66 (c0 := bd66) (lv := lvF66) rfl rfl]
    have hnle := hA.nleE; have hneq := hA.neqE
    have klt := hA.lt; have kle := hA.le; have keq := hA.eq; have knle := hA.nle; have kneq := hA.neq
    rw [lp_split (lpOf (envV A) 66 bd66) 4]
    generalize lpOf (envV A) 66 bd66 4 = L4 at e1 e2 e3 e4 e5 h2 h3 hr ⊢
    generalize lpOf (envV A) 66 bd66 = LP
    generalize evl (envV A) = E at e1 e2 e3 e4 e5 h2 h3 hr ⊢
    obtain ⟨aadd, asub, amul, arem, aquo, awr, ashr, aeq, alt, ale, aseq, aslt, acat, acut, asiz, aat, anle, aneq, afit⟩ := A
    simp only at hnle hneq
    subst hnle hneq
    simp only at klt kle keq knle kneq
    try simp only at h2 h3 hr
    conv at e1 => lhs; cbv
    conv at e2 => lhs; cbv
    conv at e3 => lhs; cbv
    conv at e4 => lhs; cbv
    conv at e5 => lhs; cbv
    cbv
    rewrite [e3]
    cbv
    rewrite [h2]
    cbv
    rewrite [e1]
    cbv
    rewrite [e4]
    cbv
    cases c1 : aseq a c
    · cbv
    · cbv
      cases c2 : aseq b d
      · cbv
      · cbv
        rewrite [h3]
        cbv
        rewrite [hr]
        cbv
  ·
    rw [lp_step (envV A) 66 (c0 := bd66) (lv := lvF66) rfl rfl]
    have hnle := hA.nleE; have hneq := hA.neqE
    have klt := hA.lt; have kle := hA.le; have keq := hA.eq; have knle := hA.nle; have kneq := hA.neq
    rw [lp_split (lpOf (envV A) 66 bd66) 4]
    generalize lpOf (envV A) 66 bd66 4 = L4 at e1 e2 e3 e4 e5 h2 h3 hr ⊢
    generalize lpOf (envV A) 66 bd66 = LP
    generalize evl (envV A) = E at e1 e2 e3 e4 e5 h2 h3 hr ⊢
    obtain ⟨aadd, asub, amul, arem, aquo, awr, ashr, aeq, alt, ale, aseq, aslt, acat, acut, asiz, aat, anle, aneq, afit⟩ := A
    simp only at hnle hneq
    subst hnle hneq
    simp only at klt kle keq knle kneq
    try simp only at h2 h3 hr
    conv at e1 => lhs; cbv
    conv at e2 => lhs; cbv
    conv at e3 => lhs; cbv
    conv at e4 => lhs; cbv
    conv at e5 => lhs; cbv
    cbv
    rewrite [e3]
    cbv
    rewrite [h2]
    cbv
    rewrite [e1]
    cbv
    rewrite [e4]
    cbv
    cases c1 : aseq a c
    · cbv
    · cbv
      cases c2 : aseq b d
      · cbv
      · cbv
        rewrite [h3]
        cbv
        rewrite [hr]
        cbv
  ·
    rw [lp_step (envV A) 66 (c0 := bd66) (lv := lvF66) rfl rfl]
    have hnle := hA.nleE; have hneq := hA.neqE
    have klt := hA.lt; have kle := hA.le; have keq := hA.eq; have knle := hA.nle; have kneq := hA.neq
    rw [lp_split (lpOf (envV A) 66 bd66) 4]
    generalize lpOf (envV A) 66 bd66 4 = L4 at e1 e2 e3 e4 e5 h2 h3 hr ⊢
    generalize lpOf (envV A) 66 bd66 = LP
    generalize evl (envV A) = E at e1 e2 e3 e4 e5 h2 h3 hr ⊢
    obtain ⟨aadd, asub, amul, arem, aquo, awr, ashr, aeq, alt, ale, aseq, aslt, acat, acut, asiz, aat, anle, aneq, afit⟩ := A
    simp only at hnle hneq
    subst hnle hneq
    simp only at klt kle keq knle kneq
    try simp only at h2 h3 hr
    conv at e1 => lhs; cbv
    conv at e2 => lhs; cbv
    conv at e3 => lhs; cbv
    conv at e4 => lhs; cbv
    conv at e5 => lhs; cbv
    cbv
    rewrite [e3]
    cbv
    rewrite [h2]
    cbv
    rewrite [e1]
    cbv
    rewrite [e4]
    cbv
    cases c1 : aseq a c
    · cbv
    · cbv
      cases c2 : aseq b d
      · cbv
      · cbv
  ·
    rw [lp_step (envV A) 66 (c0 := bd66) (lv := lvF66) rfl rfl]
    have hnle := hA.nleE; have hneq := hA.neqE
    have klt := hA.lt; have kle := hA.le; have keq := hA.eq; have knle := hA.nle; have kneq := hA.neq
    rw [lp_split (lpOf (envV A) 66 bd66) 4]
    generalize lpOf (envV A) 66 bd66 4 = L4 at e1 e2 e3 e4 e5 h2 h3 hr ⊢
    generalize lpOf (envV A) 66 bd66 = LP
    generalize evl (envV A) = E at e1 e2 e3 e4 e5 h2 h3 hr ⊢
    obtain ⟨aadd, asub, amul, arem, aquo, awr, ashr, aeq, alt, ale, aseq, aslt, acat, acut, asiz, aat, anle, aneq, afit⟩ := A
    simp only at hnle hneq
    subst hnle hneq
    simp only at klt kle keq knle kneq
    try simp only at h2 h3 hr
    conv at e1 => lhs; cbv
    conv at e2 => lhs; cbv
    conv at e3 => lhs; cbv
    conv at e4 => lhs; cbv
    conv at e5 => lhs; cbv
    cbv
    rewrite [e3]
    cbv
    rewrite [h2]
    cbv
    rewrite [e1]
    cbv
    rewrite [e4]
    cbv
    cases c1 : aseq a c
    · cbv
    · cbv
      cases c2 : aseq b d
      · cbv
      · cbv
  ·
    rw [lp_step (envV A) 66 (c0 := bd66) (lv := lvF66) rfl rfl]
    have hnle := hA.nleE; have hneq := hA.neqE
    have klt := hA.lt; have kle := hA.le; have keq := hA.eq; have knle := hA.nle; have kneq := hA.neq
    rw [lp_split (lpOf (envV A) 66 bd66) 4]
    generalize lpOf (envV A) 66 bd66 4 = L4 at e1 e2 e3 e4 e5 h2 h3 hr ⊢
    generalize lpOf (envV A) 66 bd66 = LP
    generalize evl (envV A) = E at e1 e2 e3 e4 e5 h2 h3 hr ⊢
    obtain ⟨aadd, asub, amul, arem, aquo, awr, ashr, aeq, alt, ale, aseq, aslt, acat, acut, asiz, aat, anle, aneq, afit⟩ := A
    simp only at hnle hneq
    subst hnle hneq
    simp only at klt kle keq knle kneq
    try simp only at h2 h3 hr
    conv at e1 => lhs; cbv
    conv at e2 => lhs; cbv
    conv at e3 => lhs; cbv
    conv at e4 => lhs; cbv
    conv at e5 => lhs; cbv
    cbv
    rewrite [e3]
    cbv
    rewrite [h2]
    cbv
    rewrite [e1]
    cbv
    rewrite [e4]
    cbv
    cases c1 : aseq a c
    · cbv
    · cbv
      cases c2 : aseq b d
      · cbv
      · cbv
        rewrite [h3]
        cbv
        rewrite [hr]
        cbv
theorem lp_ref01_Same_end (e3 : xs.length = n) (h2 : A.lt (.ofNat i) (.ofNat n) = false) :
    lpOf (envV A) 66 bd66 4 (stD xs ys p q i) = some (.code (.exit 0) (stDe xs ys p q i)) := by
  unfold stD stDe
  rcases hp with rfl | rfl <;> rcases hq with rfl | rfl
  ·
    rw [lp_step (envV A) 66 (c0 := bd66) (lv := lvF66) rfl rfl]
    have hnle := hA.nleE; have hneq := hA.neqE
    have klt := hA.lt; have kle := hA.le; have keq := hA.eq; have knle := hA.nle; have kneq := hA.neq
    generalize lpOf (envV A) 66 bd66 = LP
    generalize evl (envV A) = E at e3 h2 ⊢
    obtain ⟨aadd, asub, amul, arem, aquo, awr, ashr, aeq, alt, ale, aseq, aslt, acat, acut, asiz, aat, anle, aneq, afit⟩ := A
    simp only at hnle hneq
    subst hnle hneq
    simp only at klt kle keq knle kneq
    try simp only at h2
    conv at e3 => lhs; cbv
    cbv
    rewrite [e3]
    cbv
    rewrite [h2]
    cbv
  ·
    rw [lp_step (envV A) 66 (c0 := bd66) (lv := lvF66) rfl rfl]
    have hnle := hA.nleE; have hneq := hA.neqE
    have klt := hA.lt; have kle := hA.le; have keq := hA.eq; have knle := hA.nle; have kneq := hA.neq
    generalize lpOf (envV A) 66 bd66 = LP
    generalize evl (envV A) = E at e3 h2 ⊢
    obtain ⟨aadd, asub, amul, arem, aquo, awr, ashr, aeq, alt, ale, aseq, aslt, acat, acut, asiz, aat, anle, aneq, afit⟩ := A
    simp only at hnle hneq
    subst hnle hneq
    simp only at klt kle keq knle kneq
    try simp only at h2
    conv at e3 => lhs; cbv
    cbv
    rewrite [e3]
    cbv
    rewrite [h2]
    cbv
  ·
    rw [lp_step (envV A) 66 (c0 := bd66) (lv := lvF66) rfl rfl]
    have hnle := hA.nleE; have hneq := hA.neqE
    have klt := hA.lt; have kle := hA.le; have keq := hA.eq; have knle := hA.nle; have kneq := hA.neq
    generalize lpOf (envV A) 66 bd66 = LP
    generalize evl (envV A) = E at e3 h2 ⊢
    obtain ⟨aadd, asub, amul, arem, aquo, awr, ashr, aeq, alt, ale, aseq, aslt, acat, acut, asiz, aat, anle, aneq, afit⟩ := A
    simp only at hnle hneq
    subst hnle hneq
    simp only at klt kle keq knle kneq
    try simp only at h2
    conv at e3 => lhs; cbv
    cbv
    rewrite [e3]
    cbv
    rewrite [h2]
    cbv
  ·
    rw [lp_step (envV A) 66 (c0 := bd66) (lv := lvF66) rfl rfl]
    have hnle := hA.nleE; have hneq := hA.neqE
    have klt := hA.lt; have kle := hA.le; have keq := hA.eq; have knle := hA.nle; have kneq := hA.neq
    generalize lpOf (envV A) 66 bd66 = LP
    generalize evl (envV A) = E at e3 h2 ⊢
    obtain ⟨aadd, asub, amul, arem, aquo, awr, ashr, aeq, alt, ale, aseq, aslt, acat, acut, asiz, aat, anle, aneq, afit⟩ := A
    simp only at hnle hneq
    subst hnle hneq
    simp only at klt kle keq knle kneq
    try simp only at h2
    conv at e3 => lhs; cbv
    cbv
    rewrite [e3]
    cbv
    rewrite [h2]
    cbv
theorem eq_ref01_Same (s : Bool) (e3 : xs.length = n) (e5 : ys.length = m) (h1 : A.eq (.ofNat n) (.ofNat m) = true → lpOf (envV A) 66 bd66 4 (stD xs ys p q 0) = bif s then some (.code (.exit 0) (stDe xs ys p q n)) else some (.code .ret stE0)) :
    evl (envV A) (.call 66 [.sl 3 xs p, .sl 3 ys q] []) = some (.ret (.s (.bool (A.eq (.ofNat n) (.ofNat m) && s))) []) := by
  unfold stD stDe stE0 at h1
  simp only [show Int.ofNat 0 = 0 from rfl] at h1
  cases h0 : A.eq (.ofNat n) (.ofNat m) with
  | false =>
    clear h1
    rcases hp with rfl | rfl <;> rcases hq with rfl | rfl
    ·
      rw [evl_fn (envV A) 66 _ _ (fn := Try.f66) (c := bd66) (lv := lvF66) rfl rfl rfl rfl rfl rfl]
      have hnle := hA.nleE; have hneq := hA.neqE
      have klt := hA.lt; have kle := hA.le; have keq := hA.eq; have knle := hA.nle; have kneq := hA.neq
      generalize lpOf (envV A) 66 bd66 = LP
      generalize evl (envV A) = E at e3 e5 h0 ⊢
      obtain ⟨aadd, asub, amul, arem, aquo, awr, ashr, aeq, alt, ale, aseq, aslt, acat, acut, asiz, aat, anle, aneq, afit⟩ := A
      simp only at hnle hneq
      subst hnle hneq
      simp only at klt kle keq knle kneq
      try simp only at h0
      conv at e3 => lhs; cbv
      conv at e5 => lhs; cbv
      cbv
      rewrite [e3]
      cbv
      rewrite [e5]
      cbv
      rewrite [h0]
      cbv
    ·
      rw [evl_fn (envV A) 66 _ _ (fn := Try.f66) (c := bd66) (lv := lvF66) rfl rfl rfl rfl rfl rfl]
      have hnle := hA.nleE; have hneq := hA.neqE
      have klt := hA.lt; have kle := hA.le; have keq := hA.eq; have knle := hA.nle; have kneq := hA.neq
      generalize lpOf (envV A) 66 bd66 = LP
      generalize evl (envV A) = E at e3 e5 h0 ⊢
      obtain ⟨aadd, asub, amul, arem, aquo, awr, ashr, aeq, alt, ale, aseq, aslt, acat, acut, asiz, aat, anle, aneq, afit⟩ := A
      simp only at hnle hneq
      subst hnle hneq
      simp only at klt kle keq knle kneq
      try simp only at h0
      conv at e3 => lhs; cbv
      conv at e5 => lhs; cbv
      cbv
      rewrite [e3]
      cbv
      rewrite [e5]
      cbv
      rewrite [h0]
      cbv
    ·
      rw [evl_fn (envV A) 66 _ _ (fn := Try.f66) (c := bd66) (lv := lvF66) rfl rfl rfl rfl rfl rfl]
      have hnle := hA.nleE; have hneq := hA.neqE
      have klt := hA.lt; have kle := hA.le; have keq := hA.eq; have knle := hA.nle; have kneq := hA.neq
      generalize lpOf (envV A) 66 bd66 = LP
      generalize evl (envV A) = E at e3 e5 h0 ⊢
      obtain ⟨aadd, asub, amul, arem, aquo, awr, ashr, aeq, alt, ale, aseq, aslt, acat, acut, asiz, aat, anle, aneq, afit⟩ := A
      simp only at hnle hneq
      subst hnle hneq
      simp only at klt kle keq knle kneq
      try simp only at h0
      conv at e3 => lhs; cbv
      conv at e5 => lhs; cbv
      cbv
      rewrite [e3]
      cbv
      rewrite [e5]
      cbv
      rewrite [h0]
      cbv
    ·
      rw [evl_fn (envV A) 66 _ _ (fn := Try.f66) (c := bd66) (lv := lvF66) rfl rfl rfl rfl rfl rfl]
      have hnle := hA.nleE; have hneq := hA.neqE
      have klt := hA.lt; have kle := hA.le; have keq := hA.eq; have knle := hA.nle; have kneq := hA.neq
      generalize lpOf (envV A) 66 bd66 = LP
      generalize evl (envV A) = E at e3 e5 h0 ⊢
      obtain ⟨aadd, asub, amul, arem, aquo, awr, ashr, aeq, alt, ale, aseq, aslt, acat, acut, asiz, aat, anle, aneq, afit⟩ := A
      simp only at hnle hneq
      subst hnle hneq
      simp only at klt kle keq knle kneq
      try simp only at h0
      conv at e3 => lhs; cbv
      conv at e5 => lhs; cbv
      cbv
      rewrite [e3]
      cbv
      rewrite [e5]
      cbv
      rewrite [h0]
      cbv
  | true =>
    have h2 := h1 h0
    clear h1
    rcases hp with rfl | rfl <;> rcases hq with rfl | rfl <;> cases s <;> simp only [cond_true, cond_false] at h2
    ·
      rw [evl_fn (envV A) 66 _ _ (fn := Try.f66) (c := bd66) (lv := lvF66) rfl rfl rfl rfl rfl rfl]
      have hnle := hA.nleE; have hneq := hA.neqE
      have klt := hA.lt; have kle := hA.le; have keq := hA.eq; have knle := hA.nle; have kneq := hA.neq
      rw [lp_split (lpOf (envV A) 66 bd66) 4]
      generalize lpOf (envV A) 66 bd66 4 = L4 at e3 e5 h0 h2 ⊢
      generalize lpOf (envV A) 66 bd66 = LP
      generalize evl (envV A) = E at e3 e5 h0 h2 ⊢
      obtain ⟨aadd, asub, amul, arem, aquo, awr, ashr, aeq, alt, ale, aseq, aslt, acat, acut, asiz, aat, anle, aneq, afit⟩ := A
      simp only at hnle hneq
      subst hnle hneq
      simp only at klt kle keq knle kneq
      try simp only at h0 h2
      conv at e3 => lhs; cbv
      conv at e5 => lhs; cbv
      cbv
      rewrite [e3]
      cbv
      rewrite [e5]
      cbv
      rewrite [h0]
      cbv
      rewrite [h2]
      cbv
    ·
      rw [evl_fn (envV A) 66 _ _ (fn := Try.f66) (c := bd66) (lv := lvF66) rfl rfl rfl rfl rfl rfl]
      have hnle := hA.nleE; have hneq := hA.neqE
      have klt := hA.lt; have kle := hA.le; have keq := hA.eq; have knle := hA.nle; have kneq := hA.neq
      rw [lp_split (lpOf (envV A) 66 bd66) 4]
      generalize lpOf (envV A) 66 bd66 4 = L4 at e3 e5 h0 h2 ⊢
      generalize lpOf (envV A) 66 bd66 = LP
      generalize evl (envV A) = E at e3 e5 h0 h2 ⊢
      obtain ⟨aadd, asub, amul, arem, aquo, awr, ashr, aeq, alt, ale, aseq, aslt, acat, acut, asiz, aat, anle, aneq, afit⟩ := A
      simp only at hnle hneq
      subst hnle hneq
      simp only at klt kle keq knle kneq
      try simp only at h0 h2
      conv at e3 => lhs; cbv
      conv at e5 => lhs; cbv
      cbv
      rewrite [e3]
      cbv
      rewrite [e5]
      cbv
      rewrite [h0]
      cbv
      rewrite [h2]
      cbv
    ·
      rw [evl_fn (envV A) 66 _ _ (fn := Try.f66) (c := bd66) (lv := lvF66) rfl rfl rfl rfl rfl rfl]
      have hnle := hA.nleE; have hneq := hA.neqE
      have klt := hA.lt; have kle := hA.le; have keq := hA.eq; have knle := hA.nle; have kneq := hA.neq
      rw [lp_split (lpOf (envV A) 66 bd66) 4]
      generalize lpOf (envV A) 66 bd66 4 = L4 at e3 e5 h0 h2 ⊢
      generalize lpOf (envV A) 66 bd66 = LP
      generalize evl (envV A) = E at e3 e5 h0 h2 ⊢
      obtain ⟨aadd, asub, amul, arem, aquo, awr, ashr, aeq, alt, ale, aseq, aslt, acat, acut, asiz, aat, anle, aneq, afit⟩ := A
      simp only at hnle hneq
      subst hnle hneq
      simp only at klt kle keq knle kneq
      try simp only at h0 h2
      conv at e3 => lhs; cbv
      conv at e5 => lhs; cbv
      cbv
      rewrite [e3]
      cbv
      rewrite [e5]
      cbv
      rewrite [h0]
      cbv
      rewrite [h2]
      cbv
    ·
      rw [evl_fn (envV A) 66 _ _ (fn := Try.f66) (c := bd66) (lv := lvF66) rfl rfl rfl rfl rfl rfl]
      have hnle := hA.nleE; have hneq := hA.neqE
      have klt := hA.lt; have kle := hA.le; have keq := hA.eq; have knle := hA.nle; have kneq := hA.neq
      rw [lp_split (lpOf (envV A) 66 bd66) 4]
      generalize lpOf (envV A) 66 bd66 4 = L4 at e3 e5 h0 h2 ⊢
      generalize lpOf (envV A) 66 bd66 = LP
      generalize evl (envV A) = E at e3 e5 h0 h2 ⊢
      obtain ⟨aadd, asub, amul, arem, aquo, awr, ashr, aeq, alt, ale, aseq, aslt, acat, acut, asiz, aat, anle, aneq, afit⟩ := A
      simp only at hnle hneq
      subst hnle hneq
      simp only at klt kle keq knle kneq
      try simp only at h0 h2
      conv at e3 => lhs; cbv
      conv at e5 => lhs; cbv
      cbv
      rewrite [e3]
      cbv
      rewrite [e5]
      cbv
      rewrite [h0]
      cbv
      rewrite [h2]
      cbv
    ·
      rw [evl_fn (envV A) 66 _ _ (fn := Try.f66) (c := bd66) (lv := lvF66) rfl rfl rfl rfl rfl rfl]
      have hnle := hA.nleE; have hneq := hA.neqE
      have klt := hA.lt; have kle := hA.le; have keq := hA.eq; have knle := hA.nle; have kneq := hA.neq
      rw [lp_split (lpOf (envV A) 66 bd66) 4]
      generalize lpOf (envV A) 66 bd66 4 = L4 at e3 e5 h0 h2 ⊢
      generalize lpOf (envV A) 66 bd66 = LP
      generalize evl (envV A) = E at e3 e5 h0 h2 ⊢
      obtain ⟨aadd, asub, amul, arem, aquo, awr, ashr, aeq, alt, ale, aseq, aslt, acat, acut, asiz, aat, anle, aneq, afit⟩ := A
      simp only at hnle hneq
      subst hnle hneq
      simp only at klt kle keq knle kneq
      try simp only at h0 h2
      conv at e3 => lhs; cbv
      conv at e5 => lhs; cbv
      cbv
      rewrite [e3]
      cbv
      rewrite [e5]
      cbv
      rewrite [h0]
      cbv
      rewrite [h2]
      cbv
    ·
      rw [evl_fn (envV A) 66 _ _ (fn := Try.f66) (c := bd66) (lv := lvF66) rfl rfl rfl rfl rfl rfl]
      have hnle := hA.nleE; have hneq := hA.neqE
      have klt := hA.lt; have kle := hA.le; have keq := hA.eq; have knle := hA.nle; have kneq := hA.neq
      rw [lp_split (lpOf (envV A) 66 bd66) 4]
      generalize lpOf (envV A) 66 bd66 4 = L4 at e3 e5 h0 h2 ⊢
      generalize lpOf (envV A) 66 bd66 = LP
      generalize evl (envV A) = E at e3 e5 h0 h2 ⊢
      obtain ⟨aadd, asub, amul, arem, aquo, awr, ashr, aeq, alt, ale, aseq, aslt, acat, acut, asiz, aat, anle, aneq, afit⟩ := A
      simp only at hnle hneq
      subst hnle hneq
      simp only at klt kle keq knle kneq
      try simp only at h0 h2
      conv at e3 => lhs; cbv
      conv at e5 => lhs; cbv
      cbv
      rewrite [e3]
      cbv
      rewrite [e5]
      cbv
      rewrite [h0]
      cbv
      rewrite [h2]
      cbv
    ·
      rw [evl_fn (envV A) 66 _ _ (fn := Try.f66) (c := bd66) (lv := lvF66) rfl rfl rfl rfl rfl rfl]
      have hnle := hA.nleE; have hneq := hA.neqE
      have klt := hA.lt; have kle := hA.le; have keq := hA.eq; have knle := hA.nle; have kneq := hA.neq
      rw [lp_split (lpOf (envV A) 66 bd66) 4]
      generalize lpOf (envV A) 66 bd66 4 = L4 at e3 e5 h0 h2 ⊢
      generalize lpOf (envV A) 66 bd66 = LP
      generalize evl (envV A) = E at e3 e5 h0 h2 ⊢
      obtain ⟨aadd, asub, amul, arem, aquo, awr, ashr, aeq, alt, ale, aseq, aslt, acat, acut, asiz, aat, anle, aneq, afit⟩ := A
      simp only at hnle hneq
      subst hnle hneq
      simp only at klt kle keq knle kneq
      try simp only at h0 h2
      conv at e3 => lhs; cbv
      conv at e5 => lhs; cbv
      cbv
      rewrite [e3]
      cbv
      rewrite [e5]
      cbv
      rewrite [h0]
      cbv
      rewrite [h2]
      cbv
    ·
      rw [evl_fn (envV A) 66 _ _ (fn := Try.f66) (c := bd66) (lv := lvF66) rfl rfl rfl rfl rfl rfl]
      have hnle := hA.nleE; have hneq := hA.neqE
      have klt := hA.lt; have kle := hA.le; have keq := hA.eq; have knle := hA.nle; have kneq := hA.neq
      rw [lp_split (lpOf (envV A) 66 bd66) 4]
      generalize lpOf (envV A) 66 bd66 4 = L4 at e3 e5 h0 h2 ⊢
      generalize lpOf (envV A) 66 bd66 = LP
      generalize evl (envV A) = E at e3 e5 h0 h2 ⊢
      obtain ⟨aadd, asub, amul, arem, aquo, awr, ashr, aeq, alt, ale, aseq, aslt, acat, acut, asiz, aat, anle, aneq, afit⟩ := A
      simp only at hnle hneq
      subst hnle hneq
      simp only at klt kle keq knle kneq
      try simp only at h0 h2
      conv at e3 => lhs; cbv
      conv at e5 => lhs; cbv
      cbv
      rewrite [e3]
      cbv
      rewrite [e5]
      cbv
      rewrite [h0]
      cbv
      rewrite [h2]
      cbv
end
end Go.Va
