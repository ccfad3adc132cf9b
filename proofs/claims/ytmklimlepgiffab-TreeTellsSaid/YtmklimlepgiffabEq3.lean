/- The functions that the statement reaches, by equations: no statement of its own. -/
import Derived.Test.YtmklimlepgiffabEq2
set_option linter.unusedVariables false
set_option linter.unusedSimpArgs false
set_option linter.unusedSectionVars false
namespace Go.Va
open Go.Proofs
set_option maxRecDepth 100000
set_option maxHeartbeats 4000000
abbrev AttrT := ByteArray × ByteArray × Bool
def attrA (a : AttrT) : AV := .agg [.s (.string a.1), .s (.string a.2.1), .s (.bool a.2.2)]
theorem eq_attr_at1 (A : Ar) (n v name : ByteArray) (st : Bool) : evl (envV A) (.call 118 [.agg [.s (.string n), .s (.string v), .s (.bool st)], .ptr 0 0] [[.s (.string name)]]) = some (.ret (.s (.bool (A.seq n name))) [[.s (.string name)]]) := by
  rw [evl_fn (envV A) 118 _ _ (fn := Try.f118) (c := bd118) (lv := lvF118) rfl rfl rfl rfl rfl rfl]
  generalize lpOf (envV A) 118 bd118 = LP
  generalize evl (envV A) = E
  obtain ⟨aadd, asub, amul, arem, aquo, awr, ashr, aeq, alt, ale, aseq, aslt, acat, acut, asiz, aat, anle, aneq, afit⟩ := A
  cbv
def stX (xs : List AV) (p : Perm) (name : ByteArray) (n i : Nat) : St := { n := 19, k := 1, fr := [(0, .sl 3 xs p), (1, .fn 118 [] [.ptr 0 0]), (7, .s (.int .i64 (.ofNat n))), (8, .s (.int .i64 (.ofNat i)))], O := [[.s (.string name)]] }
def stXe (xs : List AV) (p : Perm) (name : ByteArray) (n i : Nat) : St := { n := 19, k := 1, fr := [(0, .sl 3 xs p), (1, .fn 118 [] [.ptr 0 0]), (7, .s (.int .i64 (.ofNat n))), (8, .s (.int .i64 (.ofNat i))), (9, .s (.bool false))], O := [[.s (.string name)]] }
section
variable (A : Ar) (hA : ArOk A) (xs : List AV) (p : Perm) (hp : p = .ro ∨ p = .imm) (n i : Nat) (name a b : ByteArray) (st : Bool)
include hA hp
theorem lp_attr_idx {r : Option Res} (e1 : lget xs i = some (.agg [.s (.string a), .s (.string b), .s (.bool st)])) (e2 : Nat.ble (Nat.succ i) n = true) (e3 : xs.length = n) (h2 : A.lt (.ofNat i) (.ofNat n) = true) (h3 : A.add .i64 (.ofNat i) 1 = .ofNat (Nat.succ i))
    (hr : lpOf (envV A) 117 bd117 2 (stX xs p name n (Nat.succ i)) = r) :
    lpOf (envV A) 117 bd117 2 (stX xs p name n i) = (bif A.seq a name then some (.code .ret { n := 19, k := 1, fr := [(4, .s (.int .i64 (.ofNat i)))], O := [[.s (.string name)]] }) else r) := by
  have h1 := eq_attr_at1 A a b name st
  unfold stX at hr ⊢
  rcases hp with rfl | rfl
  ·
    rw [lp_step (envV A) 117 (c0 := bd117) (lv := lvF117) rfl rfl]
    have hnle := hA.nleE; have hneq := hA.neqE
    have klt := hA.lt; have kle := hA.le; have keq := hA.eq; have knle := hA.nle; have kneq := hA.neq
    rw [lp_split (lpOf (envV A) 117 bd117) 2]
    generalize lpOf (envV A) 117 bd117 2 = L2 at e1 e2 e3 h1 h2 h3 hr ⊢
    generalize lpOf (envV A) 117 bd117 = LP
    generalize evl (envV A) = E at e1 e2 e3 h1 h2 h3 hr ⊢
    obtain ⟨aadd, asub, amul, arem, aquo, awr, ashr, aeq, alt, ale, aseq, aslt, acat, acut, asiz, aat, anle, aneq, afit⟩ := A
    simp only at hnle hneq
    subst hnle hneq
    simp only at klt kle keq knle kneq
    try simp only at h1 h2 h3 hr
    conv at e1 => lhs; cbv
    conv at e2 => lhs; cbv
    conv at e3 => lhs; cbv
    cbv
    rewrite [h2]
    cbv
    rewrite [e1]
    cbv
    rewrite [h1]
    cbv
    cases c1 : aseq a name
    · cbv
      rewrite [h3]
      cbv
      rewrite [hr]
      cbv
    · cbv
  ·
    rw [lp_step (envV A) 117 (c0 := bd117) (lv := lvF117) rfl rfl]
    have hnle := hA.nleE; have hneq := hA.neqE
    have klt := hA.lt; have kle := hA.le; have keq := hA.eq; have knle := hA.nle; have kneq := hA.neq
    rw [lp_split (lpOf (envV A) 117 bd117) 2]
    generalize lpOf (envV A) 117 bd117 2 = L2 at e1 e2 e3 h1 h2 h3 hr ⊢
    generalize lpOf (envV A) 117 bd117 = LP
    generalize evl (envV A) = E at e1 e2 e3 h1 h2 h3 hr ⊢
    obtain ⟨aadd, asub, amul, arem, aquo, awr, ashr, aeq, alt, ale, aseq, aslt, acat, acut, asiz, aat, anle, aneq, afit⟩ := A
    simp only at hnle hneq
    subst hnle hneq
    simp only at klt kle keq knle kneq
    try simp only at h1 h2 h3 hr
    conv at e1 => lhs; cbv
    conv at e2 => lhs; cbv
    conv at e3 => lhs; cbv
    cbv
    rewrite [h2]
    cbv
    rewrite [e1]
    cbv
    rewrite [h1]
    cbv
    cases c1 : aseq a name
    · cbv
      rewrite [h3]
      cbv
      rewrite [hr]
      cbv
    · cbv
theorem lp_attr_idx_end (e3 : xs.length = n) (h2 : A.lt (.ofNat i) (.ofNat n) = false) :
    lpOf (envV A) 117 bd117 2 (stX xs p name n i) = some (.code (.exit 0) (stXe xs p name n i)) := by
  unfold stX stXe
  rcases hp with rfl | rfl
  ·
    rw [lp_step (envV A) 117 (c0 := bd117) (lv := lvF117) rfl rfl]
    have hnle := hA.nleE; have hneq := hA.neqE
    have klt := hA.lt; have kle := hA.le; have keq := hA.eq; have knle := hA.nle; have kneq := hA.neq
    generalize lpOf (envV A) 117 bd117 = LP
    generalize evl (envV A) = E at e3 h2 ⊢
    obtain ⟨aadd, asub, amul, arem, aquo, awr, ashr, aeq, alt, ale, aseq, aslt, acat, acut, asiz, aat, anle, aneq, afit⟩ := A
    simp only at hnle hneq
    subst hnle hneq
    simp only at klt kle keq knle kneq
    try simp only at h2
    conv at e3 => lhs; cbv
    cbv
    rewrite [h2]
    cbv
  ·
    rw [lp_step (envV A) 117 (c0 := bd117) (lv := lvF117) rfl rfl]
    have hnle := hA.nleE; have hneq := hA.neqE
    have klt := hA.lt; have kle := hA.le; have keq := hA.eq; have knle := hA.nle; have kneq := hA.neq
    generalize lpOf (envV A) 117 bd117 = LP
    generalize evl (envV A) = E at e3 h2 ⊢
    obtain ⟨aadd, asub, amul, arem, aquo, awr, ashr, aeq, alt, ale, aseq, aslt, acat, acut, asiz, aat, anle, aneq, afit⟩ := A
    simp only at hnle hneq
    subst hnle hneq
    simp only at klt kle keq knle kneq
    try simp only at h2
    conv at e3 => lhs; cbv
    cbv
    rewrite [h2]
    cbv
theorem eq_attr_idx_some (e3 : xs.length = n) (h1 : lpOf (envV A) 117 bd117 2 (stX xs p name n 0) = some (.code .ret { n := 19, k := 1, fr := [(4, .s (.int .i64 (.ofNat i)))], O := [[.s (.string name)]] })) :
    evl (envV A) (.call 117 [.sl 3 xs p, .fn 118 [] [.ptr 0 0]] [[.s (.string name)]]) = some (.ret (.s (.int .i64 (.ofNat i))) [[.s (.string name)]]) := by
  unfold stX at h1
  simp only [show Int.ofNat 0 = 0 from rfl] at h1
  rcases hp with rfl | rfl
  ·
    rw [evl_fn (envV A) 117 _ _ (fn := Try.f117) (c := bd117) (lv := lvF117) rfl rfl rfl rfl rfl rfl]
    have hnle := hA.nleE; have hneq := hA.neqE
    have klt := hA.lt; have kle := hA.le; have keq := hA.eq; have knle := hA.nle; have kneq := hA.neq
    rw [lp_split (lpOf (envV A) 117 bd117) 2]
    generalize lpOf (envV A) 117 bd117 2 = L2 at e3 h1 ⊢
    generalize lpOf (envV A) 117 bd117 = LP
    generalize evl (envV A) = E at e3 h1 ⊢
    obtain ⟨aadd, asub, amul, arem, aquo, awr, ashr, aeq, alt, ale, aseq, aslt, acat, acut, asiz, aat, anle, aneq, afit⟩ := A
    simp only at hnle hneq
    subst hnle hneq
    simp only at klt kle keq knle kneq
    try simp only at h1
    conv at e3 => lhs; cbv
    cbv
    rewrite [e3]
    cbv
    rewrite [h1]
    cbv
  ·
    rw [evl_fn (envV A) 117 _ _ (fn := Try.f117) (c := bd117) (lv := lvF117) rfl rfl rfl rfl rfl rfl]
    have hnle := hA.nleE; have hneq := hA.neqE
    have klt := hA.lt; have kle := hA.le; have keq := hA.eq; have knle := hA.nle; have kneq := hA.neq
    rw [lp_split (lpOf (envV A) 117 bd117) 2]
    generalize lpOf (envV A) 117 bd117 2 = L2 at e3 h1 ⊢
    generalize lpOf (envV A) 117 bd117 = LP
    generalize evl (envV A) = E at e3 h1 ⊢
    obtain ⟨aadd, asub, amul, arem, aquo, awr, ashr, aeq, alt, ale, aseq, aslt, acat, acut, asiz, aat, anle, aneq, afit⟩ := A
    simp only at hnle hneq
    subst hnle hneq
    simp only at klt kle keq knle kneq
    try simp only at h1
    conv at e3 => lhs; cbv
    cbv
    rewrite [e3]
    cbv
    rewrite [h1]
    cbv
theorem eq_attr_idx_none (e3 : xs.length = n) (h1 : lpOf (envV A) 117 bd117 2 (stX xs p name n 0) = some (.code (.exit 0) (stXe xs p name n i))) :
    evl (envV A) (.call 117 [.sl 3 xs p, .fn 118 [] [.ptr 0 0]] [[.s (.string name)]]) = some (.ret (.s (.int .i64 (-1))) [[.s (.string name)]]) := by
  unfold stX stXe at h1
  simp only [show Int.ofNat 0 = 0 from rfl] at h1
  rcases hp with rfl | rfl
  ·
    rw [evl_fn (envV A) 117 _ _ (fn := Try.f117) (c := bd117) (lv := lvF117) rfl rfl rfl rfl rfl rfl]
    have hnle := hA.nleE; have hneq := hA.neqE
    have klt := hA.lt; have kle := hA.le; have keq := hA.eq; have knle := hA.nle; have kneq := hA.neq
    rw [lp_split (lpOf (envV A) 117 bd117) 2]
    generalize lpOf (envV A) 117 bd117 2 = L2 at e3 h1 ⊢
    generalize lpOf (envV A) 117 bd117 = LP
    generalize evl (envV A) = E at e3 h1 ⊢
    obtain ⟨aadd, asub, amul, arem, aquo, awr, ashr, aeq, alt, ale, aseq, aslt, acat, acut, asiz, aat, anle, aneq, afit⟩ := A
    simp only at hnle hneq
    subst hnle hneq
    simp only at klt kle keq knle kneq
    try simp only at h1
    conv at e3 => lhs; cbv
    cbv
    rewrite [e3]
    cbv
    rewrite [h1]
    cbv
  ·
    rw [evl_fn (envV A) 117 _ _ (fn := Try.f117) (c := bd117) (lv := lvF117) rfl rfl rfl rfl rfl rfl]
    have hnle := hA.nleE; have hneq := hA.neqE
    have klt := hA.lt; have kle := hA.le; have keq := hA.eq; have knle := hA.nle; have kneq := hA.neq
    rw [lp_split (lpOf (envV A) 117 bd117) 2]
    generalize lpOf (envV A) 117 bd117 2 = L2 at e3 h1 ⊢
    generalize lpOf (envV A) 117 bd117 = LP
    generalize evl (envV A) = E at e3 h1 ⊢
    obtain ⟨aadd, asub, amul, arem, aquo, awr, ashr, aeq, alt, ale, aseq, aslt, acat, acut, asiz, aat, anle, aneq, afit⟩ := A
    simp only at hnle hneq
    subst hnle hneq
    simp only at klt kle keq knle kneq
    try simp only at h1
    conv at e3 => lhs; cbv
    cbv
    rewrite [e3]
    cbv
    rewrite [h1]
    cbv
theorem eq_attr_at (k : Int) (e3 : xs.length = n) (h1 : evl (envV A) (.call 117 [.sl 3 xs p, .fn 118 [] [.ptr 0 0]] [[.s (.string name)]]) = some (.ret (.s (.int .i64 k)) [[.s (.string name)]])) :
    evl (envV A) (.call 105 [.sl 3 xs p, .s (.string name)] []) = some (.ret (.s (.int .i64 k)) []) := by
  rcases hp with rfl | rfl
  ·
    rw [evl_fn (envV A) 105 _ _ (fn := Try.f105) (c := bd105) (lv := lvF105) rfl rfl rfl rfl rfl rfl]
    have hnle := hA.nleE; have hneq := hA.neqE
    have klt := hA.lt; have kle := hA.le; have keq := hA.eq; have knle := hA.nle; have kneq := hA.neq
    generalize lpOf (envV A) 105 bd105 = LP
    generalize evl (envV A) = E at e3 h1 ⊢
    obtain ⟨aadd, asub, amul, arem, aquo, awr, ashr, aeq, alt, ale, aseq, aslt, acat, acut, asiz, aat, anle, aneq, afit⟩ := A
    simp only at hnle hneq
    subst hnle hneq
    simp only at klt kle keq knle kneq
    try simp only at h1
    conv at e3 => lhs; cbv
    cbv
    rewrite [h1]
    cbv
  ·
    rw [evl_fn (envV A) 105 _ _ (fn := Try.f105) (c := bd105) (lv := lvF105) rfl rfl rfl rfl rfl rfl]
    have hnle := hA.nleE; have hneq := hA.neqE
    have klt := hA.lt; have kle := hA.le; have keq := hA.eq; have knle := hA.nle; have kneq := hA.neq
    generalize lpOf (envV A) 105 bd105 = LP
    generalize evl (envV A) = E at e3 h1 ⊢
    obtain ⟨aadd, asub, amul, arem, aquo, awr, ashr, aeq, alt, ale, aseq, aslt, acat, acut, asiz, aat, anle, aneq, afit⟩ := A
    simp only at hnle hneq
    subst hnle hneq
    simp only at klt kle keq knle kneq
    try simp only at h1
    conv at e3 => lhs; cbv
    cbv
    rewrite [h1]
    cbv
end
end Go.Va
