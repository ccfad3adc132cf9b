/- The functions that the statement reaches, by equations: no statement of its own. -/
import Derived.Test.YtmklimlepgiffabEq3
set_option linter.unusedVariables false
set_option linter.unusedSimpArgs false
set_option linter.unusedSectionVars false
namespace Go.Va
open Go.Proofs
set_option maxRecDepth 100000
set_option maxHeartbeats 4000000
def stM (xs : List AV) (p : Perm) (n i : Nat) : St := { n := 34, k := 0, fr := [(0, .sl 3 xs p), (5, .sl 3 xs p), (6, .s (.int .i64 (.ofNat n))), (7, .s (.int .i64 (.ofNat i)))], O := [] }
def stMe (xs : List AV) (p : Perm) (n i : Nat) : St := { n := 34, k := 0, fr := [(0, .sl 3 xs p), (5, .sl 3 xs p), (6, .s (.int .i64 (.ofNat n))), (7, .s (.int .i64 (.ofNat i))), (8, .s (.bool false))], O := [] }
def stN (xs : List AV) (p : Perm) (i : Nat) : St := { n := 50, k := 0, fr := [(0, .sl 3 xs p), (3, .s (.int .i64 (.ofNat i)))], O := [] }
def stNi (xs : List AV) (p : Perm) (i k : Nat) : St := { n := 50, k := 0, fr := [(0, .sl 3 xs p), (3, .s (.int .i64 (.ofNat i))), (6, .s (.int .i64 (.ofNat k)))], O := [] }
section
variable (A : Ar) (hA : ArOk A) (xs : List AV) (p : Perm) (hp : p = .ro ∨ p = .imm) (n i k : Nat) (a b : ByteArray) (st m1 m2 : Bool) 
include hA hp
theorem lp_attr_May {r : Option Res} (q : Bool) (e1 : lget xs i = some (.agg [.s (.string a), .s (.string b), .s (.bool st)])) (e2 : Nat.ble (Nat.succ i) n = true) (e3 : xs.length = n) (h2 : A.lt (.ofNat i) (.ofNat n) = true) (h3 : A.add .i64 (.ofNat i) 1 = .ofNat (Nat.succ i))
    (h4 : evl (envV A) (.call 67 [.s (.string a)] []) = some (.ret (.s (.bool m1)) [])) (h5 : evl (envV A) (.call 66 [.s (.string b)] []) = some (.ret (.s (.bool m2)) []))
    (h6 : evl (envV A) (.call 105 [.sl 3 xs p, .s (.string a)] []) = some (.ret (.s (.int .i64 (.ofNat k))) [])) (h7 : A.lt (.ofNat k) (.ofNat i) = q)
    (hr : lpOf (envV A) 68 bd68 2 (stM xs p n (Nat.succ i)) = r) :
    lpOf (envV A) 68 bd68 2 (stM xs p n i) = (bif m1 && m2 && !q then r else some (.code .ret { n := 34, k := 0, fr := [(2, .s (.bool false))], O := [] })) := by
  unfold stM at hr ⊢
  rcases hp with rfl | rfl
  ·
    rw [lp_step (envV A) 68 (c0 := bd68) (lv := lvF68) rfl rfl]
    have hnle := hA.nleE; have hneq := hA.neqE
    have klt := hA.lt; have kle := hA.le; have keq := hA.eq; have knle := hA.nle; have kneq := hA.neq
    rw [lp_split (lpOf (envV A) 68 bd68) 2]
    generalize lpOf (envV A) 68 bd68 2 = L2 at e1 e2 e3 h2 h3 h4 h5 h6 h7 hr ⊢
    generalize lpOf (envV A) 68 bd68 = LP
    generalize evl (envV A) = E at e1 e2 e3 h2 h3 h4 h5 h6 h7 hr ⊢
    obtain ⟨aadd, asub, amul, arem, aquo, awr, ashr, aeq, alt, ale, aseq, aslt, acat, acut, asiz, aat, anle, aneq, afit⟩ := A
    simp only at hnle hneq
    subst hnle hneq
    simp only at klt kle keq knle kneq
    try simp only at h2 h3 h4 h5 h6 h7 hr
    conv at e1 => lhs; cbv
    conv at e2 => lhs; cbv
    conv at e3 => lhs; cbv
    cbv
    rewrite [h2]
    cbv
    rewrite [e1]
    cbv
    rewrite [h4]
    cbv
    cases m1
    · cbv
    · cbv
      rewrite [h5]
      cbv
      cases m2
      · cbv
      · cbv
        rewrite [h6]
        cbv
        rewrite [h7]
        cbv
        cases q
        · cbv
          rewrite [h3]
          cbv
          rewrite [hr]
          cbv
        · cbv
  ·
    rw [lp_step (envV A) 68 (c0 := bd68) (lv := lvF68) rfl rfl]
    have hnle := hA.nleE; have hneq := hA.neqE
    have klt := hA.lt; have kle := hA.le; have keq := hA.eq; have knle := hA.nle; have kneq := hA.neq
    rw [lp_split (lpOf (envV A) 68 bd68) 2]
    generalize lpOf (envV A) 68 bd68 2 = L2 at e1 e2 e3 h2 h3 h4 h5 h6 h7 hr ⊢
    generalize lpOf (envV A) 68 bd68 = LP
    generalize evl (envV A) = E at e1 e2 e3 h2 h3 h4 h5 h6 h7 hr ⊢
    obtain ⟨aadd, asub, amul, arem, aquo, awr, ashr, aeq, alt, ale, aseq, aslt, acat, acut, asiz, aat, anle, aneq, afit⟩ := A
    simp only at hnle hneq
    subst hnle hneq
    simp only at klt kle keq knle kneq
    try simp only at h2 h3 h4 h5 h6 h7 hr
    conv at e1 => lhs; cbv
    conv at e2 => lhs; cbv
    conv at e3 => lhs; cbv
    cbv
    rewrite [h2]
    cbv
    rewrite [e1]
    cbv
    rewrite [h4]
    cbv
    cases m1
    · cbv
    · cbv
      rewrite [h5]
      cbv
      cases m2
      · cbv
      · cbv
        rewrite [h6]
        cbv
        rewrite [h7]
        cbv
        cases q
        · cbv
          rewrite [h3]
          cbv
          rewrite [hr]
          cbv
        · cbv
theorem lp_attr_May_end (e3 : xs.length = n) (h2 : A.lt (.ofNat i) (.ofNat n) = false) : lpOf (envV A) 68 bd68 2 (stM xs p n i) = some (.code (.exit 0) (stMe xs p n i)) := by
  unfold stM stMe
  rcases hp with rfl | rfl
  ·
    rw [lp_step (envV A) 68 (c0 := bd68) (lv := lvF68) rfl rfl]
    have hnle := hA.nleE; have hneq := hA.neqE
    have klt := hA.lt; have kle := hA.le; have keq := hA.eq; have knle := hA.nle; have kneq := hA.neq
    generalize lpOf (envV A) 68 bd68 = LP
    generalize evl (envV A) = E at e3 h2 ⊢
    obtain ⟨aadd, asub, amul, arem, aquo, awr, ashr, aeq, alt, ale, aseq, aslt, acat, acut, asiz, aat, anle, aneq, afit⟩ := A
    simp only at hnle hneq
    subst hnle hneq
    simp only at klt kle keq knle kneq
    try simp only at h2
    conv at e3 => lhs; cbv
    cbv
    rewrite [h2]
    cbv
  ·
    rw [lp_step (envV A) 68 (c0 := bd68) (lv := lvF68) rfl rfl]
    have hnle := hA.nleE; have hneq := hA.neqE
    have klt := hA.lt; have kle := hA.le; have keq := hA.eq; have knle := hA.nle; have kneq := hA.neq
    generalize lpOf (envV A) 68 bd68 = LP
    generalize evl (envV A) = E at e3 h2 ⊢
    obtain ⟨aadd, asub, amul, arem, aquo, awr, ashr, aeq, alt, ale, aseq, aslt, acat, acut, asiz, aat, anle, aneq, afit⟩ := A
    simp only at hnle hneq
    subst hnle hneq
    simp only at klt kle keq knle kneq
    try simp only at h2
    conv at e3 => lhs; cbv
    cbv
    rewrite [h2]
    cbv
theorem eq_attr_May (m : Bool) (e3 : xs.length = n) (h1 : lpOf (envV A) 68 bd68 2 (stM xs p n 0) = bif m then some (.code (.exit 0) (stMe xs p n n)) else some (.code .ret { n := 34, k := 0, fr := [(2, .s (.bool false))], O := [] })) :
    evl (envV A) (.call 68 [.sl 3 xs p] []) = some (.ret (.s (.bool (bif m then A.le (.ofNat n) 8 else false))) []) := by
  unfold stM stMe at h1
  simp only [show Int.ofNat 0 = 0 from rfl] at h1
  rcases hp with rfl | rfl <;> cases m <;> simp only [cond_true, cond_false] at h1
  ·
    rw [evl_fn (envV A) 68 _ _ (fn := Try.f68) (c := bd68) (lv := lvF68) rfl rfl rfl rfl rfl rfl]
    have hnle := hA.nleE; have hneq := hA.neqE
    have klt := hA.lt; have kle := hA.le; have keq := hA.eq; have knle := hA.nle; have kneq := hA.neq
    rw [lp_split (lpOf (envV A) 68 bd68) 2]
    generalize lpOf (envV A) 68 bd68 2 = L2 at e3 h1 ⊢
    generalize lpOf (envV A) 68 bd68 = LP
    generalize evl (envV A) = E at e3 h1 ⊢
    obtain ⟨aadd, asub, amul, arem, aquo, awr, ashr, aeq, alt, ale, aseq, aslt, acat, acut, asiz, aat, anle, aneq, afit⟩ := A
    simp only at hnle hneq
    subst hnle hneq
    simp only at klt kle keq knle kneq
    try simp only at h1
    conv at e3 => lhs; cbv
    cbv
    rewrite [e3]
    cbv
    rewrite [h1]
    cbv
  ·
    rw [evl_fn (envV A) 68 _ _ (fn := Try.f68) (c := bd68) (lv := lvF68) rfl rfl rfl rfl rfl rfl]
    have hnle := hA.nleE; have hneq := hA.neqE
    have klt := hA.lt; have kle := hA.le; have keq := hA.eq; have knle := hA.nle; have kneq := hA.neq
    rw [lp_split (lpOf (envV A) 68 bd68) 2]
    generalize lpOf (envV A) 68 bd68 2 = L2 at e3 h1 ⊢
    generalize lpOf (envV A) 68 bd68 = LP
    generalize evl (envV A) = E at e3 h1 ⊢
    obtain ⟨aadd, asub, amul, arem, aquo, awr, ashr, aeq, alt, ale, aseq, aslt, acat, acut, asiz, aat, anle, aneq, afit⟩ := A
    simp only at hnle hneq
    subst hnle hneq
    simp only at klt kle keq knle kneq
    try simp only at h1
    conv at e3 => lhs; cbv
    cbv
    rewrite [e3]
    cbv
    rewrite [h1]
    cbv
    rewrite [e3]
    cbv
  ·
    rw [evl_fn (envV A) 68 _ _ (fn := Try.f68) (c := bd68) (lv := lvF68) rfl rfl rfl rfl rfl rfl]
    have hnle := hA.nleE; have hneq := hA.neqE
    have klt := hA.lt; have kle := hA.le; have keq := hA.eq; have knle := hA.nle; have kneq := hA.neq
    rw [lp_split (lpOf (envV A) 68 bd68) 2]
    generalize lpOf (envV A) 68 bd68 2 = L2 at e3 h1 ⊢
    generalize lpOf (envV A) 68 bd68 = LP
    generalize evl (envV A) = E at e3 h1 ⊢
    obtain ⟨aadd, asub, amul, arem, aquo, awr, ashr, aeq, alt, ale, aseq, aslt, acat, acut, asiz, aat, anle, aneq, afit⟩ := A
    simp only at hnle hneq
    subst hnle hneq
    simp only at klt kle keq knle kneq
    try simp only at h1
    conv at e3 => lhs; cbv
    cbv
    rewrite [e3]
    cbv
    rewrite [h1]
    cbv
  ·
    rw [evl_fn (envV A) 68 _ _ (fn := Try.f68) (c := bd68) (lv := lvF68) rfl rfl rfl rfl rfl rfl]
    have hnle := hA.nleE; have hneq := hA.neqE
    have klt := hA.lt; have kle := hA.le; have keq := hA.eq; have knle := hA.nle; have kneq := hA.neq
    rw [lp_split (lpOf (envV A) 68 bd68) 2]
    generalize lpOf (envV A) 68 bd68 2 = L2 at e3 h1 ⊢
    generalize lpOf (envV A) 68 bd68 = LP
    generalize evl (envV A) = E at e3 h1 ⊢
    obtain ⟨aadd, asub, amul, arem, aquo, awr, ashr, aeq, alt, ale, aseq, aslt, acat, acut, asiz, aat, anle, aneq, afit⟩ := A
    simp only at hnle hneq
    subst hnle hneq
    simp only at klt kle keq knle kneq
    try simp only at h1
    conv at e3 => lhs; cbv
    cbv
    rewrite [e3]
    cbv
    rewrite [h1]
    cbv
    rewrite [e3]
    cbv
theorem lp_ref01_May_in {r : Option Res} (a2 b2 : ByteArray) (st2 : Bool) (e1 : lget xs i = some (.agg [.s (.string a), .s (.string b), .s (.bool st)])) (e2 : Nat.ble (Nat.succ i) n = true) (e3 : xs.length = n) (e4 : lget xs k = some (.agg [.s (.string a2), .s (.string b2), .s (.bool st2)])) (e5 : Nat.ble (Nat.succ k) n = true)
    (h2 : A.lt (.ofNat k) (.ofNat i) = true) (h3 : A.add .i64 (.ofNat k) 1 = .ofNat (Nat.succ k)) (hr : lpOf (envV A) 74 bd74 9 (stNi xs p i (Nat.succ k)) = r) :
    lpOf (envV A) 74 bd74 9 (stNi xs p i k) = (bif A.seq a2 a then some (.code .ret { n := 50, k := 0, fr := [(2, .s (.bool false))], O := [] }) else r) := by
  unfold stNi at hr ⊢
  rcases hp with rfl | rfl
  ·
    rw [lp_step (envV A) 74 (c0 := bd74) (lv := lvF74) rfl rfl]
    have hnle := hA.nleE; have hneq := hA.neqE
    have klt := hA.lt; have kle := hA.le; have keq := hA.eq; have knle := hA.nle; have kneq := hA.neq
    rw [lp_split (lpOf (envV A) 74 bd74) 9]
    generalize lpOf (envV A) 74 bd74 9 = L9 at e1 e2 e3 e4 e5 h2 h3 hr ⊢
    generalize lpOf (envV A) 74 bd74 = LP
    generalize evl (envV A) = E at e1 e2 e3 e4 e5 h2 h3 hr ⊢
    obtain ⟨aadd, asub, amul, arem, aquo, awr, ashr, aeq, alt, ale, aseq, aslt, acat, acut, asiz, aat, anle, aneq, afit⟩ := A
    simp only at hnle hneq
    subst hnle hneq
    simp only at klt kle keq knle kneq
    try simp only at h2 h3 hr
    conv at e1 => lhs; cbv
    conv at e2 => lhs; cbv
    conv at e3 => lhs; cbv
    conv at e4 => lhs; cbv
    conv at e5 => lhs; cbv
    cbv
    rewrite [h2]
    cbv
    rewrite [e4]
    cbv
    rewrite [e1]
    cbv
    cases c1 : aseq a2 a
    · cbv
      rewrite [h3]
      cbv
      rewrite [hr]
      cbv
    · cbv
  ·
    rw [lp_step (envV A) 74 (c0 := bd74) (lv := lvF74) rfl rfl]
    have hnle := hA.nleE; have hneq := hA.neqE
    have klt := hA.lt; have kle := hA.le; have keq := hA.eq; have knle := hA.nle; have kneq := hA.neq
    rw [lp_split (lpOf (envV A) 74 bd74) 9]
    generalize lpOf (envV A) 74 bd74 9 = L9 at e1 e2 e3 e4 e5 h2 h3 hr ⊢
    generalize lpOf (envV A) 74 bd74 = LP
    generalize evl (envV A) = E at e1 e2 e3 e4 e5 h2 h3 hr ⊢
    obtain ⟨aadd, asub, amul, arem, aquo, awr, ashr, aeq, alt, ale, aseq, aslt, acat, acut, asiz, aat, anle, aneq, afit⟩ := A
    simp only at hnle hneq
    subst hnle hneq
    simp only at klt kle keq knle kneq
    try simp only at h2 h3 hr
    conv at e1 => lhs; cbv
    conv at e2 => lhs; cbv
    conv at e3 => lhs; cbv
    conv at e4 => lhs; cbv
    conv at e5 => lhs; cbv
    cbv
    rewrite [h2]
    cbv
    rewrite [e4]
    cbv
    rewrite [e1]
    cbv
    cases c1 : aseq a2 a
    · cbv
      rewrite [h3]
      cbv
      rewrite [hr]
      cbv
    · cbv
theorem lp_ref01_May_in_end (h2 : A.lt (.ofNat k) (.ofNat i) = false) :
    lpOf (envV A) 74 bd74 9 (stNi xs p i k) = some (.code (.exit 2) { n := 50, k := 0, fr := [(0, .sl 3 xs p), (3, .s (.int .i64 (.ofNat i))), (6, .s (.int .i64 (.ofNat k))), (33, .s (.bool false))], O := [] }) := by
  unfold stNi
  rcases hp with rfl | rfl
  ·
    rw [lp_step (envV A) 74 (c0 := bd74) (lv := lvF74) rfl rfl]
    have hnle := hA.nleE; have hneq := hA.neqE
    have klt := hA.lt; have kle := hA.le; have keq := hA.eq; have knle := hA.nle; have kneq := hA.neq
    generalize lpOf (envV A) 74 bd74 = LP
    generalize evl (envV A) = E at h2 ⊢
    obtain ⟨aadd, asub, amul, arem, aquo, awr, ashr, aeq, alt, ale, aseq, aslt, acat, acut, asiz, aat, anle, aneq, afit⟩ := A
    simp only at hnle hneq
    subst hnle hneq
    simp only at klt kle keq knle kneq
    try simp only at h2
    cbv
    rewrite [h2]
    cbv
  ·
    rw [lp_step (envV A) 74 (c0 := bd74) (lv := lvF74) rfl rfl]
    have hnle := hA.nleE; have hneq := hA.neqE
    have klt := hA.lt; have kle := hA.le; have keq := hA.eq; have knle := hA.nle; have kneq := hA.neq
    generalize lpOf (envV A) 74 bd74 = LP
    generalize evl (envV A) = E at h2 ⊢
    obtain ⟨aadd, asub, amul, arem, aquo, awr, ashr, aeq, alt, ale, aseq, aslt, acat, acut, asiz, aat, anle, aneq, afit⟩ := A
    simp only at hnle hneq
    subst hnle hneq
    simp only at klt kle keq knle kneq
    try simp only at h2
    cbv
    rewrite [h2]
    cbv
theorem lp_ref01_May {r : Option Res} (q : Bool) (j : Nat) (e1 : lget xs i = some (.agg [.s (.string a), .s (.string b), .s (.bool st)])) (e2 : Nat.ble (Nat.succ i) n = true) (e3 : xs.length = n) (h2 : A.lt (.ofNat i) (.ofNat n) = true) (h3 : A.add .i64 (.ofNat i) 1 = .ofNat (Nat.succ i))
    (h4 : evl (envV A) (.call 73 [.s (.string a)] []) = some (.ret (.s (.bool m1)) [])) (h5 : evl (envV A) (.call 72 [.s (.string b)] []) = some (.ret (.s (.bool m2)) []))
    (h6 : lpOf (envV A) 74 bd74 9 { n := 50, k := 0, fr := [(0, .sl 3 xs p), (3, .s (.int .i64 (.ofNat i))), (6, .s (.int .i64 0))], O := [] } = bif q then some (.code .ret { n := 50, k := 0, fr := [(2, .s (.bool false))], O := [] }) else some (.code (.exit 2) { n := 50, k := 0, fr := [(0, .sl 3 xs p), (3, .s (.int .i64 (.ofNat i))), (6, .s (.int .i64 (.ofNat j))), (33, .s (.bool false))], O := [] }))
    (hr : lpOf (envV A) 74 bd74 2 (stN xs p (Nat.succ i)) = r) :
    lpOf (envV A) 74 bd74 2 (stN xs p i) = (bif m1 && m2 && !q then r else some (.code .ret { n := 50, k := 0, fr := [(2, .s (.bool false))], O := [] })) := by
  unfold stN at hr ⊢
  rcases hp with rfl | rfl <;> cases q <;> simp only [cond_true, cond_false] at h6
  ·
    rw [lp_step (envV A) 74 (c0 := bd74) (lv := lvF74) rfl rfl]
    have hnle := hA.nleE; have hneq := hA.neqE
    have klt := hA.lt; have kle := hA.le; have keq := hA.eq; have knle := hA.nle; have kneq := hA.neq
    rw [lp_split (lpOf (envV A) 74 bd74) 2]
    generalize lpOf (envV A) 74 bd74 2 = L2 at e1 e2 e3 h2 h3 h4 h5 h6 hr ⊢
    rw [lp_split (lpOf (envV A) 74 bd74) 9]
    generalize lpOf (envV A) 74 bd74 9 = L9 at e1 e2 e3 h2 h3 h4 h5 h6 hr ⊢
    generalize lpOf (envV A) 74 bd74 = LP
    generalize evl (envV A) = E at e1 e2 e3 h2 h3 h4 h5 h6 hr ⊢
    obtain ⟨aadd, asub, amul, arem, aquo, awr, ashr, aeq, alt, ale, aseq, aslt, acat, acut, asiz, aat, anle, aneq, afit⟩ := A
    simp only at hnle hneq
    subst hnle hneq
    simp only at klt kle keq knle kneq
    try simp only at h2 h3 h4 h5 h6 hr
    conv at e1 => lhs; cbv
    conv at e2 => lhs; cbv
    conv at e3 => lhs; cbv
    cbv
    rewrite [e3]
    cbv
    rewrite [h2]
    cbv
    rewrite [e1]
    cbv
    rewrite [h4]
    cbv
    rewrite [e1]
    cbv
    rewrite [h5]
    cbv
    cases m1
    · cbv
    · cbv
      cases m2
      · cbv
      · cbv
        rewrite [h6]
        cbv
        rewrite [h3]
        cbv
        rewrite [hr]
        cbv
  ·
    rw [lp_step (envV A) 74 (c0 := bd74) (lv := lvF74) rfl rfl]
    have hnle := hA.nleE; have hneq := hA.neqE
    have klt := hA.lt; have kle := hA.le; have keq := hA.eq; have knle := hA.nle; have kneq := hA.neq
    rw [lp_split (lpOf (envV A) 74 bd74) 2]
    generalize lpOf (envV A) 74 bd74 2 = L2 at e1 e2 e3 h2 h3 h4 h5 h6 hr ⊢
    rw [lp_split (lpOf (envV A) 74 bd74) 9]
    generalize lpOf (envV A) 74 bd74 9 = L9 at e1 e2 e3 h2 h3 h4 h5 h6 hr ⊢
    generalize lpOf (envV A) 74 bd74 = LP
    generalize evl (envV A) = E at e1 e2 e3 h2 h3 h4 h5 h6 hr ⊢
    obtain ⟨aadd, asub, amul, arem, aquo, awr, ashr, aeq, alt, ale, aseq, aslt, acat, acut, asiz, aat, anle, aneq, afit⟩ := A
    simp only at hnle hneq
    subst hnle hneq
    simp only at klt kle keq knle kneq
    try simp only at h2 h3 h4 h5 h6 hr
    conv at e1 => lhs; cbv
    conv at e2 => lhs; cbv
    conv at e3 => lhs; cbv
    cbv
    rewrite [e3]
    cbv
    rewrite [h2]
    cbv
    rewrite [e1]
    cbv
    rewrite [h4]
    cbv
    rewrite [e1]
    cbv
    rewrite [h5]
    cbv
    cases m1
    · cbv
    · cbv
      cases m2
      · cbv
      · cbv
        rewrite [h6]
        cbv
  ·
    rw [lp_step (envV A) 74 (c0 := bd74) (lv := lvF74) rfl rfl]
    have hnle := hA.nleE; have hneq := hA.neqE
    have klt := hA.lt; have kle := hA.le; have keq := hA.eq; have knle := hA.nle; have kneq := hA.neq
    rw [lp_split (lpOf (envV A) 74 bd74) 2]
    generalize lpOf (envV A) 74 bd74 2 = L2 at e1 e2 e3 h2 h3 h4 h5 h6 hr ⊢
    rw [lp_split (lpOf (envV A) 74 bd74) 9]
    generalize lpOf (envV A) 74 bd74 9 = L9 at e1 e2 e3 h2 h3 h4 h5 h6 hr ⊢
    generalize lpOf (envV A) 74 bd74 = LP
    generalize evl (envV A) = E at e1 e2 e3 h2 h3 h4 h5 h6 hr ⊢
    obtain ⟨aadd, asub, amul, arem, aquo, awr, ashr, aeq, alt, ale, aseq, aslt, acat, acut, asiz, aat, anle, aneq, afit⟩ := A
    simp only at hnle hneq
    subst hnle hneq
    simp only at klt kle keq knle kneq
    try simp only at h2 h3 h4 h5 h6 hr
    conv at e1 => lhs; cbv
    conv at e2 => lhs; cbv
    conv at e3 => lhs; cbv
    cbv
    rewrite [e3]
    cbv
    rewrite [h2]
    cbv
    rewrite [e1]
    cbv
    rewrite [h4]
    cbv
    rewrite [e1]
    cbv
    rewrite [h5]
    cbv
    cases m1
    · cbv
    · cbv
      cases m2
      · cbv
      · cbv
        rewrite [h6]
        cbv
        rewrite [h3]
        cbv
        rewrite [hr]
        cbv
  ·
    rw [lp_step (envV A) 74 (c0 := bd74) (lv := lvF74) rfl rfl]
    have hnle := hA.nleE; have hneq := hA.neqE
    have klt := hA.lt; have kle := hA.le; have keq := hA.eq; have knle := hA.nle; have kneq := hA.neq
    rw [lp_split (lpOf (envV A) 74 bd74) 2]
    generalize lpOf (envV A) 74 bd74 2 = L2 at e1 e2 e3 h2 h3 h4 h5 h6 hr ⊢
    rw [lp_split (lpOf (envV A) 74 bd74) 9]
    generalize lpOf (envV A) 74 bd74 9 = L9 at e1 e2 e3 h2 h3 h4 h5 h6 hr ⊢
    generalize lpOf (envV A) 74 bd74 = LP
    generalize evl (envV A) = E at e1 e2 e3 h2 h3 h4 h5 h6 hr ⊢
    obtain ⟨aadd, asub, amul, arem, aquo, awr, ashr, aeq, alt, ale, aseq, aslt, acat, acut, asiz, aat, anle, aneq, afit⟩ := A
    simp only at hnle hneq
    subst hnle hneq
    simp only at klt kle keq knle kneq
    try simp only at h2 h3 h4 h5 h6 hr
    conv at e1 => lhs; cbv
    conv at e2 => lhs; cbv
    conv at e3 => lhs; cbv
    cbv
    rewrite [e3]
    cbv
    rewrite [h2]
    cbv
    rewrite [e1]
    cbv
    rewrite [h4]
    cbv
    rewrite [e1]
    cbv
    rewrite [h5]
    cbv
    cases m1
    · cbv
    · cbv
      cases m2
      · cbv
      · cbv
        rewrite [h6]
        cbv
theorem lp_ref01_May_end (e3 : xs.length = n) (h2 : A.lt (.ofNat i) (.ofNat n) = false) : lpOf (envV A) 74 bd74 2 (stN xs p i) = some (.code (.exit 0) { n := 50, k := 0, fr := [(0, .sl 3 xs p), (3, .s (.int .i64 (.ofNat i))), (10, .s (.bool false))], O := [] }) := by
  unfold stN
  rcases hp with rfl | rfl
  ·
    rw [lp_step (envV A) 74 (c0 := bd74) (lv := lvF74) rfl rfl]
    have hnle := hA.nleE; have hneq := hA.neqE
    have klt := hA.lt; have kle := hA.le; have keq := hA.eq; have knle := hA.nle; have kneq := hA.neq
    generalize lpOf (envV A) 74 bd74 = LP
    generalize evl (envV A) = E at e3 h2 ⊢
    obtain ⟨aadd, asub, amul, arem, aquo, awr, ashr, aeq, alt, ale, aseq, aslt, acat, acut, asiz, aat, anle, aneq, afit⟩ := A
    simp only at hnle hneq
    subst hnle hneq
    simp only at klt kle keq knle kneq
    try simp only at h2
    conv at e3 => lhs; cbv
    cbv
    rewrite [e3]
    cbv
    rewrite [h2]
    cbv
  ·
    rw [lp_step (envV A) 74 (c0 := bd74) (lv := lvF74) rfl rfl]
    have hnle := hA.nleE; have hneq := hA.neqE
    have klt := hA.lt; have kle := hA.le; have keq := hA.eq; have knle := hA.nle; have kneq := hA.neq
    generalize lpOf (envV A) 74 bd74 = LP
    generalize evl (envV A) = E at e3 h2 ⊢
    obtain ⟨aadd, asub, amul, arem, aquo, awr, ashr, aeq, alt, ale, aseq, aslt, acat, acut, asiz, aat, anle, aneq, afit⟩ := A
    simp only at hnle hneq
    subst hnle hneq
    simp only at klt kle keq knle kneq
    try simp only at h2
    conv at e3 => lhs; cbv
    cbv
    rewrite [e3]
    cbv
    rewrite [h2]
    cbv
theorem eq_ref01_May (m : Bool) (e3 : xs.length = n) (h1 : lpOf (envV A) 74 bd74 2 (stN xs p 0) = bif m then some (.code (.exit 0) { n := 50, k := 0, fr := [(0, .sl 3 xs p), (3, .s (.int .i64 (.ofNat n))), (10, .s (.bool false))], O := [] }) else some (.code .ret { n := 50, k := 0, fr := [(2, .s (.bool false))], O := [] })) :
    evl (envV A) (.call 74 [.sl 3 xs p] []) = some (.ret (.s (.bool (bif m then A.le (.ofNat n) 8 else false))) []) := by
  unfold stN at h1
  simp only [show Int.ofNat 0 = 0 from rfl] at h1
  rcases hp with rfl | rfl <;> cases m <;> simp only [cond_true, cond_false] at h1
  ·
    rw [evl_fn (envV A) 74 _ _ (fn := Try.f74) (c := bd74) (lv := lvF74) rfl rfl rfl rfl rfl rfl]
    have hnle := hA.nleE; have hneq := hA.neqE
    have klt := hA.lt; have kle := hA.le; have keq := hA.eq; have knle := hA.nle; have kneq := hA.neq
    rw [lp_split (lpOf (envV A) 74 bd74) 2]
    generalize lpOf (envV A) 74 bd74 2 = L2 at e3 h1 ⊢
    generalize lpOf (envV A) 74 bd74 = LP
    generalize evl (envV A) = E at e3 h1 ⊢
    obtain ⟨aadd, asub, amul, arem, aquo, awr, ashr, aeq, alt, ale, aseq, aslt, acat, acut, asiz, aat, anle, aneq, afit⟩ := A
    simp only at hnle hneq
    subst hnle hneq
    simp only at klt kle keq knle kneq
    try simp only at h1
    conv at e3 => lhs; cbv
    cbv
    rewrite [h1]
    cbv
  ·
    rw [evl_fn (envV A) 74 _ _ (fn := Try.f74) (c := bd74) (lv := lvF74) rfl rfl rfl rfl rfl rfl]
    have hnle := hA.nleE; have hneq := hA.neqE
    have klt := hA.lt; have kle := hA.le; have keq := hA.eq; have knle := hA.nle; have kneq := hA.neq
    rw [lp_split (lpOf (envV A) 74 bd74) 2]
    generalize lpOf (envV A) 74 bd74 2 = L2 at e3 h1 ⊢
    generalize lpOf (envV A) 74 bd74 = LP
    generalize evl (envV A) = E at e3 h1 ⊢
    obtain ⟨aadd, asub, amul, arem, aquo, awr, ashr, aeq, alt, ale, aseq, aslt, acat, acut, asiz, aat, anle, aneq, afit⟩ := A
    simp only at hnle hneq
    subst hnle hneq
    simp only at klt kle keq knle kneq
    try simp only at h1
    conv at e3 => lhs; cbv
    cbv
    rewrite [h1]
    cbv
    rewrite [e3]
    cbv
  ·
    rw [evl_fn (envV A) 74 _ _ (fn := Try.f74) (c := bd74) (lv := lvF74) rfl rfl rfl rfl rfl rfl]
    have hnle := hA.nleE; have hneq := hA.neqE
    have klt := hA.lt; have kle := hA.le; have keq := hA.eq; have knle := hA.nle; have kneq := hA.neq
    rw [lp_split (lpOf (envV A) 74 bd74) 2]
    generalize lpOf (envV A) 74 bd74 2 = L2 at e3 h1 ⊢
    generalize lpOf (envV A) 74 bd74 = LP
    generalize evl (envV A) = E at e3 h1 ⊢
    obtain ⟨aadd, asub, amul, arem, aquo, awr, ashr, aeq, alt, ale, aseq, aslt, acat, acut, asiz, aat, anle, aneq, afit⟩ := A
    simp only at hnle hneq
    subst hnle hneq
    simp only at klt kle keq knle kneq
    try simp only at h1
    conv at e3 => lhs; cbv
    cbv
    rewrite [h1]
    cbv
  ·
    rw [evl_fn (envV A) 74 _ _ (fn := Try.f74) (c := bd74) (lv := lvF74) rfl rfl rfl rfl rfl rfl]
    have hnle := hA.nleE; have hneq := hA.neqE
    have klt := hA.lt; have kle := hA.le; have keq := hA.eq; have knle := hA.nle; have kneq := hA.neq
    rw [lp_split (lpOf (envV A) 74 bd74) 2]
    generalize lpOf (envV A) 74 bd74 2 = L2 at e3 h1 ⊢
    generalize lpOf (envV A) 74 bd74 = LP
    generalize evl (envV A) = E at e3 h1 ⊢
    obtain ⟨aadd, asub, amul, arem, aquo, awr, ashr, aeq, alt, ale, aseq, aslt, acat, acut, asiz, aat, anle, aneq, afit⟩ := A
    simp only at hnle hneq
    subst hnle hneq
    simp only at klt kle keq knle kneq
    try simp only at h1
    conv at e3 => lhs; cbv
    cbv
    rewrite [h1]
    cbv
    rewrite [e3]
    cbv
end
end Go.Va
