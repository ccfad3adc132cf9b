/- The functions that the statement reaches, by equations: no statement of its own. -/
import Derived.Test.YtmklimlepgiffaaEq3
set_option linter.unusedVariables false
set_option linter.unusedSimpArgs false
set_option linter.unusedSectionVars false
namespace Go.Va
open Go.Proofs
set_option maxRecDepth 100000
set_option maxHeartbeats 4000000
abbrev AttrT := ByteArray × ByteArray × Bool
def attrA (a : AttrT) : AV := .agg [.s (.string a.1), .s (.string a.2.1), .s (.bool a.2.2)]
theorem eq_attr_at1 (A : Ar) (n v name : ByteArray) (st : Bool) : evl (envV A) (.call 104 [.agg [.s (.string n), .s (.string v), .s (.bool st)], .ptr 0 0] [[.s (.string name)]]) = some (.ret (.s (.bool (A.seq n name))) [[.s (.string name)]]) := by
  rw [evl_fn (envV A) 104 _ _ (fn := Try.f104) (c := bd104) (lv := lvF104) rfl rfl rfl rfl rfl rfl]
  generalize lpOf (envV A) 104 bd104 = LP
  generalize evl (envV A) = E
  obtain ⟨aadd, asub, amul, arem, aquo, awr, ashr, aeq, alt, ale, aseq, aslt, acat, acut, asiz, aat, anle, aneq, afit⟩ := A
  cbv
def stX (xs : List AV) (p : Perm) (name : ByteArray) (n i : Nat) : St := { n := 19, k := 1, fr := [(0, .sl 3 xs p), (1, .fn 104 [] [.ptr 0 0]), (7, .s (.int .i64 (.ofNat n))), (8, .s (.int .i64 (.ofNat i)))], O := [[.s (.string name)]] }
def stXe (xs : List AV) (p : Perm) (name : ByteArray) (n i : Nat) : St := { n := 19, k := 1, fr := [(0, .sl 3 xs p), (1, .fn 104 [] [.ptr 0 0]), (7, .s (.int .i64 (.ofNat n))), (8, .s (.int .i64 (.ofNat i))), (9, .s (.bool false))], O := [[.s (.string name)]] }
section
variable (A : Ar) (hA : ArOk A) (xs : List AV) (p : Perm) (hp : p = .ro ∨ p = .imm) (n i : Nat) (name a b : ByteArray) (st : Bool)
include hA hp
theorem lp_attr_idx {r : Option Res} (e1 : lget xs i = some (.agg [.s (.string a), .s (.string b), .s (.bool st)])) (e2 : Nat.ble (Nat.succ i) n = true) (e3 : xs.length = n) (h2 : A.lt (.ofNat i) (.ofNat n) = true) (h3 : A.add .i64 (.ofNat i) 1 = .ofNat (Nat.succ i))
    (hr : lpOf (envV A) 103 bd103 2 (stX xs p name n (Nat.succ i)) = r) :
    lpOf (envV A) 103 bd103 2 (stX xs p name n i) = (bif A.seq a name then some (.code .ret { n := 19, k := 1, fr := [(4, .s (.int .i64 (.ofNat i)))], O := [[.s (.string name)]] }) else r) := by
  have h1 := eq_attr_at1 A a b name st
  unfold stX at hr ⊢
  rcases hp with rfl | rfl
  ·
    rw [lp_step (envV A) 103 (c0 := bd103) (lv := lvF103) rfl rfl]
    have hnle := hA.nleE; have hneq := hA.neqE
    have klt := hA.lt; have kle := hA.le; have keq := hA.eq; have knle := hA.nle; have kneq := hA.neq
    rw [lp_split (lpOf (envV A) 103 bd103) 2]
    generalize lpOf (envV A) 103 bd103 2 = L2 at e1 e2 e3 h1 h2 h3 hr ⊢
    generalize lpOf (envV A) 103 bd103 = LP
    generalize evl (envV A) = E at e1 e2 e3 h1 h2 h3 hr ⊢
    obtain ⟨aadd, asub, amul, arem, aquo, awr, ashr, aeq, alt, ale, aseq, aslt, acat, acut, asiz, aat, anle, aneq, afit⟩ := A
    simp only at hnle hneq
    subst hnle hneq
    simp only at klt kle keq knle kneq
    try simp only at h1 h2 h3 hr
    conv at e1 => lhs; cbv
    conv at e2 => lhs; cbv
    conv at e3 => lhs; cbv
    cbv
    rewrite [h2]
    cbv
    rewrite [e1]
    cbv
    rewrite [h1]
    cbv
    cases c1 : aseq a name
    · cbv
      rewrite [h3]
      cbv
      rewrite [hr]
      cbv
    · cbv
  ·
    rw [lp_step (envV A) 103 (c0 := bd103) (lv := lvF103) rfl rfl]
    have hnle := hA.nleE; have hneq := hA.neqE
    have klt := hA.lt; have kle := hA.le; have keq := hA.eq; have knle := hA.nle; have kneq := hA.neq
    rw [lp_split (lpOf (envV A) 103 bd103) 2]
    generalize lpOf (envV A) 103 bd103 2 = L2 at e1 e2 e3 h1 h2 h3 hr ⊢
    generalize lpOf (envV A) 103 bd103 = LP
    generalize evl (envV A) = E at e1 e2 e3 h1 h2 h3 hr ⊢
    obtain ⟨aadd, asub, amul, arem, aquo, awr, ashr, aeq, alt, ale, aseq, aslt, acat, acut, asiz, aat, anle, aneq, afit⟩ := A
    simp only at hnle hneq
    subst hnle hneq
    simp only at klt kle keq knle kneq
    try simp only at h1 h2 h3 hr
    conv at e1 => lhs; cbv
    conv at e2 => lhs; cbv
    conv at e3 => lhs; cbv
    cbv
    rewrite [h2]
    cbv
    rewrite [e1]
    cbv
    rewrite [h1]
    cbv
    cases c1 : aseq a name
    · cbv
      rewrite [h3]
      cbv
      rewrite [hr]
      cbv
    · cbv
theorem lp_attr_idx_end (e3 : xs.length = n) (h2 : A.lt (.ofNat i) (.ofNat n) = false) :
    lpOf (envV A) 103 bd103 2 (stX xs p name n i) = some (.code (.exit 0) (stXe xs p name n i)) := by
  unfold stX stXe
  rcases hp with rfl | rfl
  ·
    rw [lp_step (envV A) 103 (c0 := bd103) (lv := lvF103) rfl rfl]
    have hnle := hA.nleE; have hneq := hA.neqE
    have klt := hA.lt; have kle := hA.le; have keq := hA.eq; have knle := hA.nle; have kneq := hA.neq
    generalize lpOf (envV A) 103 bd103 = LP
    generalize evl (envV A) = E at e3 h2 ⊢
    obtain ⟨aadd, asub, amul, arem, aquo, awr, ashr, aeq, alt, ale, aseq, aslt, acat, acut, asiz, aat, anle, aneq, afit⟩ := A
    simp only at hnle hneq
    subst hnle hneq
    simp only at klt kle keq knle kneq
    try simp only at h2
    conv at e3 => lhs; cbv
    cbv
    rewrite [h2]
    cbv
  ·
    rw [lp_step (envV A) 103 (c0 := bd103) (lv := lvF103) rfl rfl]
    have hnle := hA.nleE; have hneq := hA.neqE
    have klt := hA.lt; have kle := hA.le; have keq := hA.eq; have knle := hA.nle; have kneq := hA.neq
    generalize lpOf (envV A) 103 bd103 = LP
    generalize evl (envV A) = E at e3 h2 ⊢
    obtain ⟨aadd, asub, amul, arem, aquo, awr, ashr, aeq, alt, ale, aseq, aslt, acat, acut, asiz, aat, anle, aneq, afit⟩ := A
    simp only at hnle hneq
    subst hnle hneq
    simp only at klt kle keq knle kneq
    try simp only at h2
    conv at e3 => lhs; cbv
    cbv
    rewrite [h2]
    cbv
theorem eq_attr_idx_some (e3 : xs.length = n) (h1 : lpOf (envV A) 103 bd103 2 (stX xs p name n 0) = some (.code .ret { n := 19, k := 1, fr := [(4, .s (.int .i64 (.ofNat i)))], O := [[.s (.string name)]] })) :
    evl (envV A) (.call 103 [.sl 3 xs p, .fn 104 [] [.ptr 0 0]] [[.s (.string name)]]) = some (.ret (.s (.int .i64 (.ofNat i))) [[.s (.string name)]]) := by
  unfold stX at h1
  simp only [show Int.ofNat 0 = 0 from rfl] at h1
  rcases hp with rfl | rfl
  ·
    rw [evl_fn (envV A) 103 _ _ (fn := Try.f103) (c := bd103) (lv := lvF103) rfl rfl rfl rfl rfl rfl]
    have hnle := hA.nleE; have hneq := hA.neqE
    have klt := hA.lt; have kle := hA.le; have keq := hA.eq; have knle := hA.nle; have kneq := hA.neq
    rw [lp_split (lpOf (envV A) 103 bd103) 2]
    generalize lpOf (envV A) 103 bd103 2 = L2 at e3 h1 ⊢
    generalize lpOf (envV A) 103 bd103 = LP
    generalize evl (envV A) = E at e3 h1 ⊢
    obtain ⟨aadd, asub, amul, arem, aquo, awr, ashr, aeq, alt, ale, aseq, aslt, acat, acut, asiz, aat, anle, aneq, afit⟩ := A
    simp only at hnle hneq
    subst hnle hneq
    simp only at klt kle keq knle kneq
    try simp only at h1
    conv at e3 => lhs; cbv
    cbv
    rewrite [e3]
    cbv
    rewrite [h1]
    cbv
  ·
    rw [evl_fn (envV A) 103 _ _ (fn := Try.f103) (c := bd103) (lv := lvF103) rfl rfl rfl rfl rfl rfl]
    have hnle := hA.nleE; have hneq := hA.neqE
    have klt := hA.lt; have kle := hA.le; have keq := hA.eq; have knle := hA.nle; have kneq := hA.neq
    rw [lp_split (lpOf (envV A) 103 bd103) 2]
    generalize lpOf (envV A) 103 bd103 2 = L2 at e3 h1 ⊢
    generalize lpOf (envV A) 103 bd103 = LP
    generalize evl (envV A) = E at e3 h1 ⊢
    obtain ⟨aadd, asub, amul, arem, aquo, awr, ashr, aeq, alt, ale, aseq, aslt, acat, acut, asiz, aat, anle, aneq, afit⟩ := A
    simp only at hnle hneq
    subst hnle hneq
    simp only at klt kle keq knle kneq
    try simp only at h1
    conv at e3 => lhs; cbv
    cbv
    rewrite [e3]
    cbv
    rewrite [h1]
    cbv
theorem eq_attr_idx_none (e3 : xs.length = n) (h1 : lpOf (envV A) 103 bd103 2 (stX xs p name n 0) = some (.code (.exit 0) (stXe xs p name n i))) :
    evl (envV A) (.call 103 [.sl 3 xs p, .fn 104 [] [.ptr 0 0]] [[.s (.string name)]]) = some (.ret (.s (.int .i64 (-1))) [[.s (.string name)]]) := by
  unfold stX stXe at h1
  simp only [show Int.ofNat 0 = 0 from rfl] at h1
  rcases hp with rfl | rfl
  ·
    rw [evl_fn (envV A) 103 _ _ (fn := Try.f103) (c := bd103) (lv := lvF103) rfl rfl rfl rfl rfl rfl]
    have hnle := hA.nleE; have hneq := hA.neqE
    have klt := hA.lt; have kle := hA.le; have keq := hA.eq; have knle := hA.nle; have kneq := hA.neq
    rw [lp_split (lpOf (envV A) 103 bd103) 2]
    generalize lpOf (envV A) 103 bd103 2 = L2 at e3 h1 ⊢
    generalize lpOf (envV A) 103 bd103 = LP
    generalize evl (envV A) = E at e3 h1 ⊢
    obtain ⟨aadd, asub, amul, arem, aquo, awr, ashr, aeq, alt, ale, aseq, aslt, acat, acut, asiz, aat, anle, aneq, afit⟩ := A
    simp only at hnle hneq
    subst hnle hneq
    simp only at klt kle keq knle kneq
    try simp only at h1
    conv at e3 => lhs; cbv
    cbv
    rewrite [e3]
    cbv
    rewrite [h1]
    cbv
  ·
    rw [evl_fn (envV A) 103 _ _ (fn := Try.f103) (c := bd103) (lv := lvF103) rfl rfl rfl rfl rfl rfl]
    have hnle := hA.nleE; have hneq := hA.neqE
    have klt := hA.lt; have kle := hA.le; have keq := hA.eq; have knle := hA.nle; have kneq := hA.neq
    rw [lp_split (lpOf (envV A) 103 bd103) 2]
    generalize lpOf (envV A) 103 bd103 2 = L2 at e3 h1 ⊢
    generalize lpOf (envV A) 103 bd103 = LP
    generalize evl (envV A) = E at e3 h1 ⊢
    obtain ⟨aadd, asub, amul, arem, aquo, awr, ashr, aeq, alt, ale, aseq, aslt, acat, acut, asiz, aat, anle, aneq, afit⟩ := A
    simp only at hnle hneq
    subst hnle hneq
    simp only at klt kle keq knle kneq
    try simp only at h1
    conv at e3 => lhs; cbv
    cbv
    rewrite [e3]
    cbv
    rewrite [h1]
    cbv
theorem eq_attr_at (k : Int) (e3 : xs.length = n) (h1 : evl (envV A) (.call 103 [.sl 3 xs p, .fn 104 [] [.ptr 0 0]] [[.s (.string name)]]) = some (.ret (.s (.int .i64 k)) [[.s (.string name)]])) :
    evl (envV A) (.call 90 [.sl 3 xs p, .s (.string name)] []) = some (.ret (.s (.int .i64 k)) []) := by
  rcases hp with rfl | rfl
  ·
    rw [evl_fn (envV A) 90 _ _ (fn := Try.f90) (c := bd90) (lv := lvF90) rfl rfl rfl rfl rfl rfl]
    have hnle := hA.nleE; have hneq := hA.neqE
    have klt := hA.lt; have kle := hA.le; have keq := hA.eq; have knle := hA.nle; have kneq := hA.neq
    generalize lpOf (envV A) 90 bd90 = LP
    generalize evl (envV A) = E at e3 h1 ⊢
    obtain ⟨aadd, asub, amul, arem, aquo, awr, ashr, aeq, alt, ale, aseq, aslt, acat, acut, asiz, aat, anle, aneq, afit⟩ := A
    simp only at hnle hneq
    subst hnle hneq
    simp only at klt kle keq knle kneq
    try simp only at h1
    conv at e3 => lhs; cbv
    cbv
    rewrite [h1]
    cbv
  ·
    rw [evl_fn (envV A) 90 _ _ (fn := Try.f90) (c := bd90) (lv := lvF90) rfl rfl rfl rfl rfl rfl]
    have hnle := hA.nleE; have hneq := hA.neqE
    have klt := hA.lt; have kle := hA.le; have keq := hA.eq; have knle := hA.nle; have kneq := hA.neq
    generalize lpOf (envV A) 90 bd90 = LP
    generalize evl (envV A) = E at e3 h1 ⊢
    obtain ⟨aadd, asub, amul, arem, aquo, awr, ashr, aeq, alt, ale, aseq, aslt, acat, acut, asiz, aat, anle, aneq, afit⟩ := A
    simp only at hnle hneq
    subst hnle hneq
    simp only at klt kle keq knle kneq
    try simp only at h1
    conv at e3 => lhs; cbv
    cbv
    rewrite [h1]
    cbv
end
end Go.Va
namespace Go.Va
open Go.Proofs
set_option maxRecDepth 100000
set_option maxHeartbeats 4000000
def stM (xs : List AV) (p : Perm) (n i : Nat) : St := { n := 34, k := 0, fr := [(0, .sl 3 xs p), (5, .sl 3 xs p), (6, .s (.int .i64 (.ofNat n))), (7, .s (.int .i64 (.ofNat i)))], O := [] }
def stMe (xs : List AV) (p : Perm) (n i : Nat) : St := { n := 34, k := 0, fr := [(0, .sl 3 xs p), (5, .sl 3 xs p), (6, .s (.int .i64 (.ofNat n))), (7, .s (.int .i64 (.ofNat i))), (8, .s (.bool false))], O := [] }
def stN (xs : List AV) (p : Perm) (i : Nat) : St := { n := 50, k := 0, fr := [(0, .sl 3 xs p), (3, .s (.int .i64 (.ofNat i)))], O := [] }
def stNi (xs : List AV) (p : Perm) (i k : Nat) : St := { n := 50, k := 0, fr := [(0, .sl 3 xs p), (3, .s (.int .i64 (.ofNat i))), (6, .s (.int .i64 (.ofNat k)))], O := [] }
section
variable (A : Ar) (hA : ArOk A) (xs : List AV) (p : Perm) (hp : p = .ro ∨ p = .imm) (n i k : Nat) (a b : ByteArray) (st m1 m2 : Bool) 
include hA hp
theorem lp_attr_May {r : Option Res} (q : Bool) (e1 : lget xs i = some (.agg [.s (.string a), .s (.string b), .s (.bool st)])) (e2 : Nat.ble (Nat.succ i) n = true) (e3 : xs.length = n) (h2 : A.lt (.ofNat i) (.ofNat n) = true) (h3 : A.add .i64 (.ofNat i) 1 = .ofNat (Nat.succ i))
    (h4 : evl (envV A) (.call 16 [.s (.string a)] []) = some (.ret (.s (.bool m1)) [])) (h5 : evl (envV A) (.call 18 [.s (.string b)] []) = some (.ret (.s (.bool m2)) []))
    (h6 : evl (envV A) (.call 90 [.sl 3 xs p, .s (.string a)] []) = some (.ret (.s (.int .i64 (.ofNat k))) [])) (h7 : A.lt (.ofNat k) (.ofNat i) = q)
    (hr : lpOf (envV A) 63 bd63 2 (stM xs p n (Nat.succ i)) = r) :
    lpOf (envV A) 63 bd63 2 (stM xs p n i) = (bif m1 && m2 && !q then r else some (.code .ret { n := 34, k := 0, fr := [(2, .s (.bool false))], O := [] })) := by
  unfold stM at hr ⊢
  rcases hp with rfl | rfl
  ·
    rw [lp_step (envV A) 63 (c0 := bd63) (lv := lvF63) rfl rfl]
    have hnle := hA.nleE; have hneq := hA.neqE
    have klt := hA.lt; have kle := hA.le; have keq := hA.eq; have knle := hA.nle; have kneq := hA.neq
    rw [lp_split (lpOf (envV A) 63 bd63) 2]
    generalize lpOf (envV A) 63 bd63 2 = L2 at e1 e2 e3 h2 h3 h4 h5 h6 h7 hr ⊢
    generalize lpOf (envV A) 63 bd63 = LP
    generalize evl (envV A) = E at e1 e2 e3 h2 h3 h4 h5 h6 h7 hr ⊢
    obtain ⟨aadd, asub, amul, arem, aquo, awr, ashr, aeq, alt, ale, aseq, aslt, acat, acut, asiz, aat, anle, aneq, afit⟩ := A
    simp only at hnle hneq
    subst hnle hneq
    simp only at klt kle keq knle kneq
    try simp only at h2 h3 h4 h5 h6 h7 hr
    conv at e1 => lhs; cbv
    conv at e2 => lhs; cbv
    conv at e3 => lhs; cbv
    cbv
    rewrite [h2]
    cbv
    rewrite [e1]
    cbv
    rewrite [h4]
    cbv
    cases m1
    · cbv
    · cbv
      rewrite [h5]
      cbv
      cases m2
      · cbv
      · cbv
        rewrite [h6]
        cbv
        rewrite [h7]
        cbv
        cases q
        · cbv
          rewrite [h3]
          cbv
          rewrite [hr]
          cbv
        · cbv
  ·
    rw [lp_step (envV A) 63 (c0 := bd63) (lv := lvF63) rfl rfl]
    have hnle := hA.nleE; have hneq := hA.neqE
    have klt := hA.lt; have kle := hA.le; have keq := hA.eq; have knle := hA.nle; have kneq := hA.neq
    rw [lp_split (lpOf (envV A) 63 bd63) 2]
    generalize lpOf (envV A) 63 bd63 2 = L2 at e1 e2 e3 h2 h3 h4 h5 h6 h7 hr ⊢
    generalize lpOf (envV A) 63 bd63 = LP
    generalize evl (envV A) = E at e1 e2 e3 h2 h3 h4 h5 h6 h7 hr ⊢
    obtain ⟨aadd, asub, amul, arem, aquo, awr, ashr, aeq, alt, ale, aseq, aslt, acat, acut, asiz, aat, anle, aneq, afit⟩ := A
    simp only at hnle hneq
    subst hnle hneq
    simp only at klt kle keq knle kneq
    try simp only at h2 h3 h4 h5 h6 h7 hr
    conv at e1 => lhs; cbv
    conv at e2 => lhs; cbv
    conv at e3 => lhs; cbv
    cbv
    rewrite [h2]
    cbv
    rewrite [e1]
    cbv
    rewrite [h4]
    cbv
    cases m1
    · cbv
    · cbv
      rewrite [h5]
      cbv
      cases m2
      · cbv
      · cbv
        rewrite [h6]
        cbv
        rewrite [h7]
        cbv
        cases q
        · cbv
          rewrite [h3]
          cbv
          rewrite [hr]
          cbv
        · cbv
theorem lp_attr_May_end (e3 : xs.length = n) (h2 : A.lt (.ofNat i) (.ofNat n) = false) : lpOf (envV A) 63 bd63 2 (stM xs p n i) = some (.code (.exit 0) (stMe xs p n i)) := by
  unfold stM stMe
  rcases hp with rfl | rfl
  ·
    rw [lp_step (envV A) 63 (c0 := bd63) (lv := lvF63) rfl rfl]
    have hnle := hA.nleE; have hneq := hA.neqE
    have klt := hA.lt; have kle := hA.le; have keq := hA.eq; have knle := hA.nle; have kneq := hA.neq
    generalize lpOf (envV A) 63 bd63 = LP
    generalize evl (envV A) = E at e3 h2 ⊢
    obtain ⟨aadd, asub, amul, arem, aquo, awr, ashr, aeq, alt, ale, aseq, aslt, acat, acut, asiz, aat, anle, aneq, afit⟩ := A
    simp only at hnle hneq
    subst hnle hneq
    simp only at klt kle keq knle kneq
    try simp only at h2
    conv at e3 => lhs; cbv
    cbv
    rewrite [h2]
    cbv
  ·
    rw [lp_step (envV A) 63 (c0 := bd63) (lv := lvF63) rfl rfl]
    have hnle := hA.nleE; have hneq := hA.neqE
    have klt := hA.lt; have kle := hA.le; have keq := hA.eq; have knle := hA.nle; have kneq := hA.neq
    generalize lpOf (envV A) 63 bd63 = LP
    generalize evl (envV A) = E at e3 h2 ⊢
    obtain ⟨aadd, asub, amul, arem, aquo, awr, ashr, aeq, alt, ale, aseq, aslt, acat, acut, asiz, aat, anle, aneq, afit⟩ := A
    simp only at hnle hneq
    subst hnle hneq
    simp only at klt kle keq knle kneq
    try simp only at h2
    conv at e3 => lhs; cbv
    cbv
    rewrite [h2]
    cbv
theorem eq_attr_May (m : Bool) (e3 : xs.length = n) (h1 : lpOf (envV A) 63 bd63 2 (stM xs p n 0) = bif m then some (.code (.exit 0) (stMe xs p n n)) else some (.code .ret { n := 34, k := 0, fr := [(2, .s (.bool false))], O := [] })) :
    evl (envV A) (.call 63 [.sl 3 xs p] []) = some (.ret (.s (.bool (bif m then A.le (.ofNat n) 8 else false))) []) := by
  unfold stM stMe at h1
  simp only [show Int.ofNat 0 = 0 from rfl] at h1
  rcases hp with rfl | rfl <;> cases m <;> simp only [cond_true, cond_false] at h1
  ·
    rw [evl_fn (envV A) 63 _ _ (fn := Try.f63) (c := bd63) (lv := lvF63) rfl rfl rfl rfl rfl rfl]
    have hnle := hA.nleE; have hneq := hA.neqE
    have klt := hA.lt; have kle := hA.le; have keq := hA.eq; have knle := hA.nle; have kneq := hA.neq
    rw [lp_split (lpOf (envV A) 63 bd63) 2]
    generalize lpOf (envV A) 63 bd63 2 = L2 at e3 h1 ⊢
    generalize lpOf (envV A) 63 bd63 = LP
    generalize evl (envV A) = E at e3 h1 ⊢
    obtain ⟨aadd, asub, amul, arem, aquo, awr, ashr, aeq, alt, ale, aseq, aslt, acat, acut, asiz, aat, anle, aneq, afit⟩ := A
    simp only at hnle hneq
    subst hnle hneq
    simp only at klt kle keq knle kneq
    try simp only at h1
    conv at e3 => lhs; cbv
    cbv
    rewrite [e3]
    cbv
    rewrite [h1]
    cbv
  ·
    rw [evl_fn (envV A) 63 _ _ (fn := Try.f63) (c := bd63) (lv := lvF63) rfl rfl rfl rfl rfl rfl]
    have hnle := hA.nleE; have hneq := hA.neqE
    have klt := hA.lt; have kle := hA.le; have keq := hA.eq; have knle := hA.nle; have kneq := hA.neq
    rw [lp_split (lpOf (envV A) 63 bd63) 2]
    generalize lpOf (envV A) 63 bd63 2 = L2 at e3 h1 ⊢
    generalize lpOf (envV A) 63 bd63 = LP
    generalize evl (envV A) = E at e3 h1 ⊢
    obtain ⟨aadd, asub, amul, arem, aquo, awr, ashr, aeq, alt, ale, aseq, aslt, acat, acut, asiz, aat, anle, aneq, afit⟩ := A
    simp only at hnle hneq
    subst hnle hneq
    simp only at klt kle keq knle kneq
    try simp only at h1
    conv at e3 => lhs; cbv
    cbv
    rewrite [e3]
    cbv
    rewrite [h1]
    cbv
    rewrite [e3]
    cbv
  ·
    rw [evl_fn (envV A) 63 _ _ (fn := Try.f63) (c := bd63) (lv := lvF63) rfl rfl rfl rfl rfl rfl]
    have hnle := hA.nleE; have hneq := hA.neqE
    have klt := hA.lt; have kle := hA.le; have keq := hA.eq; have knle := hA.nle; have kneq := hA.neq
    rw [lp_split (lpOf (envV A) 63 bd63) 2]
    generalize lpOf (envV A) 63 bd63 2 = L2 at e3 h1 ⊢
    generalize lpOf (envV A) 63 bd63 = LP
    generalize evl (envV A) = E at e3 h1 ⊢
    obtain ⟨aadd, asub, amul, arem, aquo, awr, ashr, aeq, alt, ale, aseq, aslt, acat, acut, asiz, aat, anle, aneq, afit⟩ := A
    simp only at hnle hneq
    subst hnle hneq
    simp only at klt kle keq knle kneq
    try simp only at h1
    conv at e3 => lhs; cbv
    cbv
    rewrite [e3]
    cbv
    rewrite [h1]
    cbv
  ·
    rw [evl_fn (envV A) 63 _ _ (fn := Try.f63) (c := bd63) (lv := lvF63) rfl rfl rfl rfl rfl rfl]
    have hnle := hA.nleE; have hneq := hA.neqE
    have klt := hA.lt; have kle := hA.le; have keq := hA.eq; have knle := hA.nle; have kneq := hA.neq
    rw [lp_split (lpOf (envV A) 63 bd63) 2]
    generalize lpOf (envV A) 63 bd63 2 = L2 at e3 h1 ⊢
    generalize lpOf (envV A) 63 bd63 = LP
    generalize evl (envV A) = E at e3 h1 ⊢
    obtain ⟨aadd, asub, amul, arem, aquo, awr, ashr, aeq, alt, ale, aseq, aslt, acat, acut, asiz, aat, anle, aneq, afit⟩ := A
    simp only at hnle hneq
    subst hnle hneq
    simp only at klt kle keq knle kneq
    try simp only at h1
    conv at e3 => lhs; cbv
    cbv
    rewrite [e3]
    cbv
    rewrite [h1]
    cbv
    rewrite [e3]
    cbv
theorem lp_ref01_May_in {r : Option Res} (a2 b2 : ByteArray) (st2 : Bool) (e1 : lget xs i = some (.agg [.s (.string a), .s (.string b), .s (.bool st)])) (e2 : Nat.ble (Nat.succ i) n = true) (e3 : xs.length = n) (e4 : lget xs k = some (.agg [.s (.string a2), .s (.string b2), .s (.bool st2)])) (e5 : Nat.ble (Nat.succ k) n = true)
    (h2 : A.lt (.ofNat k) (.ofNat i) = true) (h3 : A.add .i64 (.ofNat k) 1 = .ofNat (Nat.succ k)) (hr : lpOf (envV A) 64 bd64 9 (stNi xs p i (Nat.succ k)) = r) :
    lpOf (envV A) 64 bd64 9 (stNi xs p i k) = (bif A.seq a2 a then some (.code .ret { n := 50, k := 0, fr := [(2, .s (.bool false))], O := [] }) else r) := by
  unfold stNi at hr ⊢
  rcases hp with rfl | rfl
  ·
    rw [lp_step (envV A) 64 (c0 := bd64) (lv := lvF64) rfl rfl]
    have hnle := hA.nleE; have hneq := hA.neqE
    have klt := hA.lt; have kle := hA.le; have keq := hA.eq; have knle := hA.nle; have kneq := hA.neq
    rw [lp_split (lpOf (envV A) 64 bd64) 9]
    generalize lpOf (envV A) 64 bd64 9 = L9 at e1 e2 e3 e4 e5 h2 h3 hr ⊢
    generalize lpOf (envV A) 64 bd64 = LP
    generalize evl (envV A) = E at e1 e2 e3 e4 e5 h2 h3 hr ⊢
    obtain ⟨aadd, asub, amul, arem, aquo, awr, ashr, aeq, alt, ale, aseq, aslt, acat, acut, asiz, aat, anle, aneq, afit⟩ := A
    simp only at hnle hneq
    subst hnle hneq
    simp only at klt kle keq knle kneq
    try simp only at h2 h3 hr
    conv at e1 => lhs; cbv
    conv at e2 => lhs; cbv
    conv at e3 => lhs; cbv
    conv at e4 => lhs; cbv
    conv at e5 => lhs; cbv
    cbv
    rewrite [h2]
    cbv
    rewrite [e4]
    cbv
    rewrite [e1]
    cbv
    cases c1 : aseq a2 a
    · cbv
      rewrite [h3]
      cbv
      rewrite [hr]
      cbv
    · cbv
  ·
    rw [lp_step (envV A) 64 (c0 := bd64) (lv := lvF64) rfl rfl]
    have hnle := hA.nleE; have hneq := hA.neqE
    have klt := hA.lt; have kle := hA.le; have keq := hA.eq; have knle := hA.nle; have kneq := hA.neq
    rw [lp_split (lpOf (envV A) 64 bd64) 9]
    generalize lpOf (envV A) 64 bd64 9 = L9 at e1 e2 e3 e4 e5 h2 h3 hr ⊢
    generalize lpOf (envV A) 64 bd64 = LP
    generalize evl (envV A) = E at e1 e2 e3 e4 e5 h2 h3 hr ⊢
    obtain ⟨aadd, asub, amul, arem, aquo, awr, ashr, aeq, alt, ale, aseq, aslt, acat, acut, asiz, aat, anle, aneq, afit⟩ := A
    simp only at hnle hneq
    subst hnle hneq
    simp only at klt kle keq knle kneq
    try simp only at h2 h3 hr
    conv at e1 => lhs; cbv
    conv at e2 => lhs; cbv
    conv at e3 => lhs; cbv
    conv at e4 => lhs; cbv
    conv at e5 => lhs; cbv
    cbv
    rewrite [h2]
    cbv
    rewrite [e4]
    cbv
    rewrite [e1]
    cbv
    cases c1 : aseq a2 a
    · cbv
      rewrite [h3]
      cbv
      rewrite [hr]
      cbv
    · cbv
theorem lp_ref01_May_in_end (h2 : A.lt (.ofNat k) (.ofNat i) = false) :
    lpOf (envV A) 64 bd64 9 (stNi xs p i k) = some (.code (.exit 2) { n := 50, k := 0, fr := [(0, .sl 3 xs p), (3, .s (.int .i64 (.ofNat i))), (6, .s (.int .i64 (.ofNat k))), (33, .s (.bool false))], O := [] }) := by
  unfold stNi
  rcases hp with rfl | rfl
  ·
    rw [lp_step (envV A) 64 (c0 := bd64) (lv := lvF64) rfl rfl]
    have hnle := hA.nleE; have hneq := hA.neqE
    have klt := hA.lt; have kle := hA.le; have keq := hA.eq; have knle := hA.nle; have kneq := hA.neq
    generalize lpOf (envV A) 64 bd64 = LP
    generalize evl (envV A) = E at h2 ⊢
    obtain ⟨aadd, asub, amul, arem, aquo, awr, ashr, aeq, alt, ale, aseq, aslt, acat, acut, asiz, aat, anle, aneq, afit⟩ := A
    simp only at hnle hneq
    subst hnle hneq
    simp only at klt kle keq knle kneq
    try simp only at h2
    cbv
    rewrite [h2]
    cbv
  ·
    rw [lp_step (envV A) 64 (c0 := bd64) (lv := lvF64) rfl rfl]
    have hnle := hA.nleE; have hneq := hA.neqE
    have klt := hA.lt; have kle := hA.le; have keq := hA.eq; have knle := hA.nle; have kneq := hA.neq
    generalize lpOf (envV A) 64 bd64 = LP
    generalize evl (envV A) = E at h2 ⊢
    obtain ⟨aadd, asub, amul, arem, aquo, awr, ashr, aeq, alt, ale, aseq, aslt, acat, acut, asiz, aat, anle, aneq, afit⟩ := A
    simp only at hnle hneq
    subst hnle hneq
    simp only at klt kle keq knle kneq
    try simp only at h2
    cbv
    rewrite [h2]
    cbv
theorem lp_ref01_May {r : Option Res} (q : Bool) (j : Nat) (e1 : lget xs i = some (.agg [.s (.string a), .s (.string b), .s (.bool st)])) (e2 : Nat.ble (Nat.succ i) n = true) (e3 : xs.length = n) (h2 : A.lt (.ofNat i) (.ofNat n) = true) (h3 : A.add .i64 (.ofNat i) 1 = .ofNat (Nat.succ i))
    (h4 : evl (envV A) (.call 17 [.s (.string a)] []) = some (.ret (.s (.bool m1)) [])) (h5 : evl (envV A) (.call 19 [.s (.string b)] []) = some (.ret (.s (.bool m2)) []))
    (h6 : lpOf (envV A) 64 bd64 9 { n := 50, k := 0, fr := [(0, .sl 3 xs p), (3, .s (.int .i64 (.ofNat i))), (6, .s (.int .i64 0))], O := [] } = bif q then some (.code .ret { n := 50, k := 0, fr := [(2, .s (.bool false))], O := [] }) else some (.code (.exit 2) { n := 50, k := 0, fr := [(0, .sl 3 xs p), (3, .s (.int .i64 (.ofNat i))), (6, .s (.int .i64 (.ofNat j))), (33, .s (.bool false))], O := [] }))
    (hr : lpOf (envV A) 64 bd64 2 (stN xs p (Nat.succ i)) = r) :
    lpOf (envV A) 64 bd64 2 (stN xs p i) = (bif m1 && m2 && !q then r else some (.code .ret { n := 50, k := 0, fr := [(2, .s (.bool false))], O := [] })) := by
  unfold stN at hr ⊢
  rcases hp with rfl | rfl <;> cases q <;> simp only [cond_true, cond_false] at h6
  ·
    rw [lp_step (envV A) 64 (c0 := bd64) (lv := lvF64) rfl rfl]
    have hnle := hA.nleE; have hneq := hA.neqE
    have klt := hA.lt; have kle := hA.le; have keq := hA.eq; have knle := hA.nle; have kneq := hA.neq
    rw [lp_split (lpOf (envV A) 64 bd64) 2]
    generalize lpOf (envV A) 64 bd64 2 = L2 at e1 e2 e3 h2 h3 h4 h5 h6 hr ⊢
    rw [lp_split (lpOf (envV A) 64 bd64) 9]
    generalize lpOf (envV A) 64 bd64 9 = L9 at e1 e2 e3 h2 h3 h4 h5 h6 hr ⊢
    generalize lpOf (envV A) 64 bd64 = LP
    generalize evl (envV A) = E at e1 e2 e3 h2 h3 h4 h5 h6 hr ⊢
    obtain ⟨aadd, asub, amul, arem, aquo, awr, ashr, aeq, alt, ale, aseq, aslt, acat, acut, asiz, aat, anle, aneq, afit⟩ := A
    simp only at hnle hneq
    subst hnle hneq
    simp only at klt kle keq knle kneq
    try simp only at h2 h3 h4 h5 h6 hr
    conv at e1 => lhs; cbv
    conv at e2 => lhs; cbv
    conv at e3 => lhs; cbv
    cbv
    rewrite [e3]
    cbv
    rewrite [h2]
    cbv
    rewrite [e1]
    cbv
    rewrite [h4]
    cbv
    rewrite [e1]
    cbv
    rewrite [h5]
    cbv
    cases m1
    · cbv
    · cbv
      cases m2
      · cbv
      · cbv
        rewrite [h6]
        cbv
        rewrite [h3]
        cbv
        rewrite [hr]
        cbv
  ·
    rw [lp_step (envV A) 64 (c0 := bd64) (lv := lvF64) rfl rfl]
    have hnle := hA.nleE; have hneq := hA.neqE
    have klt := hA.lt; have kle := hA.le; have keq := hA.eq; have knle := hA.nle; have kneq := hA.neq
    rw [lp_split (lpOf (envV A) 64 bd64) 2]
    generalize lpOf (envV A) 64 bd64 2 = L2 at e1 e2 e3 h2 h3 h4 h5 h6 hr ⊢
    rw [lp_split (lpOf (envV A) 64 bd64) 9]
    generalize lpOf (envV A) 64 bd64 9 = L9 at e1 e2 e3 h2 h3 h4 h5 h6 hr ⊢
    generalize lpOf (envV A) 64 bd64 = LP
    generalize evl (envV A) = E at e1 e2 e3 h2 h3 h4 h5 h6 hr ⊢
    obtain ⟨aadd, asub, amul, arem, aquo, awr, ashr, aeq, alt, ale, aseq, aslt, acat, acut, asiz, aat, anle, aneq, afit⟩ := A
    simp only at hnle hneq
    subst hnle hneq
    simp only at klt kle keq knle kneq
    try simp only at h2 h3 h4 h5 h6 hr
    conv at e1 => lhs; cbv
    conv at e2 => lhs; cbv
    conv at e3 => lhs; cbv
    cbv
    rewrite [e3]
    cbv
    rewrite [h2]
    cbv
    rewrite [e1]
    cbv
    rewrite [h4]
    cbv
    rewrite [e1]
    cbv
    rewrite [h5]
    cbv
    cases m1
    · cbv
    · cbv
      cases m2
      · cbv
      · cbv
        rewrite [h6]
        cbv
  ·
    rw [lp_step (envV A) 64 (c0 := bd64) (lv := lvF64) rfl rfl]
    have hnle := hA.nleE; have hneq := hA.neqE
    have klt := hA.lt; have kle := hA.le; have keq := hA.eq; have knle := hA.nle; have kneq := hA.neq
    rw [lp_split (lpOf (envV A) 64 bd64) 2]
    generalize lpOf (envV A) 64 bd64 2 = L2 at e1 e2 e3 h2 h3 h4 h5 h6 hr ⊢
    rw [lp_split (lpOf (envV A) 64 bd64) 9]
    generalize lpOf (envV A) 64 bd64 9 = L9 at e1 e2 e3 h2 h3 h4 h5 h6 hr ⊢
    generalize lpOf (envV A) 64 bd64 = LP
    generalize evl (envV A) = E at e1 e2 e3 h2 h3 h4 h5 h6 hr ⊢
    obtain ⟨aadd, asub, amul, arem, aquo, awr, ashr, aeq, alt, ale, aseq, aslt, acat, acut, asiz, aat, anle, aneq, afit⟩ := A
    simp only at hnle hneq
    subst hnle hneq
    simp only at klt kle keq knle kneq
    try simp only at h2 h3 h4 h5 h6 hr
    conv at e1 => lhs; cbv
    conv at e2 => lhs; cbv
    conv at e3 => lhs; cbv
    cbv
    rewrite [e3]
    cbv
    rewrite [h2]
    cbv
    rewrite [e1]
    cbv
    rewrite [h4]
    cbv
    rewrite [e1]
    cbv
    rewrite [h5]
    cbv
    cases m1
    · cbv
    · cbv
      cases m2
      · cbv
      · cbv
        rewrite [h6]
        cbv
        rewrite [h3]
        cbv
        rewrite [hr]
        cbv
  ·
    rw [lp_step (envV A) 64 (c0 := bd64) (lv := lvF64) rfl rfl]
    have hnle := hA.nleE; have hneq := hA.neqE
    have klt := hA.lt; have kle := hA.le; have keq := hA.eq; have knle := hA.nle; have kneq := hA.neq
    rw [lp_split (lpOf (envV A) 64 bd64) 2]
    generalize lpOf (envV A) 64 bd64 2 = L2 at e1 e2 e3 h2 h3 h4 h5 h6 hr ⊢
    rw [lp_split (lpOf (envV A) 64 bd64) 9]
    generalize lpOf (envV A) 64 bd64 9 = L9 at e1 e2 e3 h2 h3 h4 h5 h6 hr ⊢
    generalize lpOf (envV A) 64 bd64 = LP
    generalize evl (envV A) = E at e1 e2 e3 h2 h3 h4 h5 h6 hr ⊢
    obtain ⟨aadd, asub, amul, arem, aquo, awr, ashr, aeq, alt, ale, aseq, aslt, acat, acut, asiz, aat, anle, aneq, afit⟩ := A
    simp only at hnle hneq
    subst hnle hneq
    simp only at klt kle keq knle kneq
    try simp only at h2 h3 h4 h5 h6 hr
    conv at e1 => lhs; cbv
    conv at e2 => lhs; cbv
    conv at e3 => lhs; cbv
    cbv
    rewrite [e3]
    cbv
    rewrite [h2]
    cbv
    rewrite [e1]
    cbv
    rewrite [h4]
    cbv
    rewrite [e1]
    cbv
    rewrite [h5]
    cbv
    cases m1
    · cbv
    · cbv
      cases m2
      · cbv
      · cbv
        rewrite [h6]
        cbv
theorem lp_ref01_May_end (e3 : xs.length = n) (h2 : A.lt (.ofNat i) (.ofNat n) = false) : lpOf (envV A) 64 bd64 2 (stN xs p i) = some (.code (.exit 0) { n := 50, k := 0, fr := [(0, .sl 3 xs p), (3, .s (.int .i64 (.ofNat i))), (10, .s (.bool false))], O := [] }) := by
  unfold stN
  rcases hp with rfl | rfl
  ·
    rw [lp_step (envV A) 64 (c0 := bd64) (lv := lvF64) rfl rfl]
    have hnle := hA.nleE; have hneq := hA.neqE
    have klt := hA.lt; have kle := hA.le; have keq := hA.eq; have knle := hA.nle; have kneq := hA.neq
    generalize lpOf (envV A) 64 bd64 = LP
    generalize evl (envV A) = E at e3 h2 ⊢
    obtain ⟨aadd, asub, amul, arem, aquo, awr, ashr, aeq, alt, ale, aseq, aslt, acat, acut, asiz, aat, anle, aneq, afit⟩ := A
    simp only at hnle hneq
    subst hnle hneq
    simp only at klt kle keq knle kneq
    try simp only at h2
    conv at e3 => lhs; cbv
    cbv
    rewrite [e3]
    cbv
    rewrite [h2]
    cbv
  ·
    rw [lp_step (envV A) 64 (c0 := bd64) (lv := lvF64) rfl rfl]
    have hnle := hA.nleE; have hneq := hA.neqE
    have klt := hA.lt; have kle := hA.le; have keq := hA.eq; have knle := hA.nle; have kneq := hA.neq
    generalize lpOf (envV A) 64 bd64 = LP
    generalize evl (envV A) = E at e3 h2 ⊢
    obtain ⟨aadd, asub, amul, arem, aquo, awr, ashr, aeq, alt, ale, aseq, aslt, acat, acut, asiz, aat, anle, aneq, afit⟩ := A
    simp only at hnle hneq
    subst hnle hneq
    simp only at klt kle keq knle kneq
    try simp only at h2
    conv at e3 => lhs; cbv
    cbv
    rewrite [e3]
    cbv
    rewrite [h2]
    cbv
theorem eq_ref01_May (m : Bool) (e3 : xs.length = n) (h1 : lpOf (envV A) 64 bd64 2 (stN xs p 0) = bif m then some (.code (.exit 0) { n := 50, k := 0, fr := [(0, .sl 3 xs p), (3, .s (.int .i64 (.ofNat n))), (10, .s (.bool false))], O := [] }) else some (.code .ret { n := 50, k := 0, fr := [(2, .s (.bool false))], O := [] })) :
    evl (envV A) (.call 64 [.sl 3 xs p] []) = some (.ret (.s (.bool (bif m then A.le (.ofNat n) 8 else false))) []) := by
  unfold stN at h1
  simp only [show Int.ofNat 0 = 0 from rfl] at h1
  rcases hp with rfl | rfl <;> cases m <;> simp only [cond_true, cond_false] at h1
  ·
    rw [evl_fn (envV A) 64 _ _ (fn := Try.f64) (c := bd64) (lv := lvF64) rfl rfl rfl rfl rfl rfl]
    have hnle := hA.nleE; have hneq := hA.neqE
    have klt := hA.lt; have kle := hA.le; have keq := hA.eq; have knle := hA.nle; have kneq := hA.neq
    rw [lp_split (lpOf (envV A) 64 bd64) 2]
    generalize lpOf (envV A) 64 bd64 2 = L2 at e3 h1 ⊢
    generalize lpOf (envV A) 64 bd64 = LP
    generalize evl (envV A) = E at e3 h1 ⊢
    obtain ⟨aadd, asub, amul, arem, aquo, awr, ashr, aeq, alt, ale, aseq, aslt, acat, acut, asiz, aat, anle, aneq, afit⟩ := A
    simp only at hnle hneq
    subst hnle hneq
    simp only at klt kle keq knle kneq
    try simp only at h1
    conv at e3 => lhs; cbv
    cbv
    rewrite [h1]
    cbv
  ·
    rw [evl_fn (envV A) 64 _ _ (fn := Try.f64) (c := bd64) (lv := lvF64) rfl rfl rfl rfl rfl rfl]
    have hnle := hA.nleE; have hneq := hA.neqE
    have klt := hA.lt; have kle := hA.le; have keq := hA.eq; have knle := hA.nle; have kneq := hA.neq
    rw [lp_split (lpOf (envV A) 64 bd64) 2]
    generalize lpOf (envV A) 64 bd64 2 = L2 at e3 h1 ⊢
    generalize lpOf (envV A) 64 bd64 = LP
    generalize evl (envV A) = E at e3 h1 ⊢
    obtain ⟨aadd, asub, amul, arem, aquo, awr, ashr, aeq, alt, ale, aseq, aslt, acat, acut, asiz, aat, anle, aneq, afit⟩ := A
    simp only at hnle hneq
    subst hnle hneq
    simp only at klt kle keq knle kneq
    try simp only at h1
    conv at e3 => lhs; cbv
    cbv
    rewrite [h1]
    cbv
    rewrite [e3]
    cbv
  ·
    rw [evl_fn (envV A) 64 _ _ (fn := Try.f64) (c := bd64) (lv := lvF64) rfl rfl rfl rfl rfl rfl]
    have hnle := hA.nleE; have hneq := hA.neqE
    have klt := hA.lt; have kle := hA.le; have keq := hA.eq; have knle := hA.nle; have kneq := hA.neq
    rw [lp_split (lpOf (envV A) 64 bd64) 2]
    generalize lpOf (envV A) 64 bd64 2 = L2 at e3 h1 ⊢
    generalize lpOf (envV A) 64 bd64 = LP
    generalize evl (envV A) = E at e3 h1 ⊢
    obtain ⟨aadd, asub, amul, arem, aquo, awr, ashr, aeq, alt, ale, aseq, aslt, acat, acut, asiz, aat, anle, aneq, afit⟩ := A
    simp only at hnle hneq
    subst hnle hneq
    simp only at klt kle keq knle kneq
    try simp only at h1
    conv at e3 => lhs; cbv
    cbv
    rewrite [h1]
    cbv
  ·
    rw [evl_fn (envV A) 64 _ _ (fn := Try.f64) (c := bd64) (lv := lvF64) rfl rfl rfl rfl rfl rfl]
    have hnle := hA.nleE; have hneq := hA.neqE
    have klt := hA.lt; have kle := hA.le; have keq := hA.eq; have knle := hA.nle; have kneq := hA.neq
    rw [lp_split (lpOf (envV A) 64 bd64) 2]
    generalize lpOf (envV A) 64 bd64 2 = L2 at e3 h1 ⊢
    generalize lpOf (envV A) 64 bd64 = LP
    generalize evl (envV A) = E at e3 h1 ⊢
    obtain ⟨aadd, asub, amul, arem, aquo, awr, ashr, aeq, alt, ale, aseq, aslt, acat, acut, asiz, aat, anle, aneq, afit⟩ := A
    simp only at hnle hneq
    subst hnle hneq
    simp only at klt kle keq knle kneq
    try simp only at h1
    conv at e3 => lhs; cbv
    cbv
    rewrite [h1]
    cbv
    rewrite [e3]
    cbv
end
end Go.Va
