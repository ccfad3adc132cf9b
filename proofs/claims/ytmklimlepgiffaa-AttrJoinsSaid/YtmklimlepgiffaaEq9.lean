/- The functions that the statement reaches, by equations: no statement of its own. -/
import Derived.Test.YtmklimlepgiffaaEq8
set_option linter.unusedVariables false
set_option linter.unusedSimpArgs false
set_option linter.unusedSectionVars false
namespace Go.Va
open Go.Proofs
set_option maxRecDepth 100000
set_option maxHeartbeats 4000000
def stJ (os ws : List AV) (m i : Nat) : St := { n := 32, k := 0, fr := [(5, .sl 3 os .full), (11, .sl 3 ws .full), (12, .s (.int .i64 (.ofNat m))), (13, .s (.int .i64 (.ofNat i)))], O := [] }
def stJe (os ws : List AV) (m i : Nat) : St := { n := 32, k := 0, fr := [(5, .sl 3 os .full), (11, .sl 3 ws .full), (12, .s (.int .i64 (.ofNat m))), (13, .s (.int .i64 (.ofNat i))), (14, .s (.bool false))], O := [] }
section
variable (A : Ar) (hA : ArOk A) (xs ys os os2 ws zs : List AV) (n m i j k k2 : Nat) (a c : ByteArray) (st b q : Bool)
include hA
theorem lp_join_have {r : Option Res} (d : Nat) (e0 : ws.length = m) (e1 : os.length = k) (e2 : lget ws i = some (.agg [.s (.string a), .s (.string c), .s (.bool st)])) (e3 : Nat.ble (Nat.succ i) m = true) (e4 : 0 + k = k) (e5 : lcut os 0 k = os) (e6 : Nat.ble k k = true) (e7 : 0 + i = i) (h2 : A.lt (.ofNat i) (.ofNat m) = true) (h1 : evl (envV A) (.call 90 [.sl 3 os .ro, .s (.string a)] []) = some (.ret (.s (.int .i64 (.ofNat d))) [])) (h3 : A.lt (.ofNat d) 0 = false) (h4 : A.add .i64 (.ofNat i) 1 = .ofNat (Nat.succ i))
    (hr : lpOf (envV A) 67 bd67 3 (stJ os ws m (Nat.succ i)) = r) : lpOf (envV A) 67 bd67 3 (stJ os ws m i) = r := by
  unfold stJ at hr ⊢
  rw [lp_step (envV A) 67 (c0 := bd67) (lv := lvF67) rfl rfl]
  have hnle := hA.nleE; have hneq := hA.neqE
  have klt := hA.lt; have kle := hA.le; have keq := hA.eq; have knle := hA.nle; have kneq := hA.neq
  rw [lp_split (lpOf (envV A) 67 bd67) 3]
  generalize lpOf (envV A) 67 bd67 3 = L3 at e0 e1 e2 e3 e4 e5 e6 e7 h1 h2 h3 h4 hr ⊢
  generalize lpOf (envV A) 67 bd67 = LP
  generalize evl (envV A) = E at e0 e1 e2 e3 e4 e5 e6 e7 h1 h2 h3 h4 hr ⊢
  obtain ⟨aadd, asub, amul, arem, aquo, awr, ashr, aeq, alt, ale, aseq, aslt, acat, acut, asiz, aat, anle, aneq, afit⟩ := A
  simp only at hnle hneq
  subst hnle hneq
  simp only at klt kle keq knle kneq
  try simp only at h1 h2 h3 h4 hr
  conv at e0 => lhs; cbv
  conv at e1 => lhs; cbv
  conv at e2 => lhs; cbv
  conv at e3 => lhs; cbv
  conv at e4 => lhs; cbv
  conv at e5 => lhs; cbv
  conv at e6 => lhs; cbv
  conv at e7 => lhs; cbv
  cbv
  rewrite [h2]
  cbv
  rewrite [e0]
  cbv
  rewrite [e3]
  cbv
  rewrite [e2]
  cbv
  rewrite [e1]
  cbv
  rewrite [e4]
  cbv
  rewrite [e5]
  cbv
  rewrite [e6]
  cbv
  rewrite [h1]
  cbv
  rewrite [h3]
  cbv
  rewrite [h4]
  cbv
  rewrite [hr]
  cbv
theorem lp_join_new {r : Option Res} (e0 : ws.length = m) (e1 : os.length = k) (e2 : lget ws i = some (.agg [.s (.string a), .s (.string c), .s (.bool st)])) (e3 : Nat.ble (Nat.succ i) m = true) (e4 : 0 + k = k) (e5 : lcut os 0 k = os) (e6 : Nat.ble k k = true) (e7 : 0 + i = i) (e8 : Nat.beq k k = true) (e9 : os ++ [.agg [.s (.string a), .s (.string c), .s (.bool st)]] = os2) (h2 : A.lt (.ofNat i) (.ofNat m) = true) (h1 : evl (envV A) (.call 90 [.sl 3 os .ro, .s (.string a)] []) = some (.ret (.s (.int .i64 (-1))) [])) (h3 : A.fit (Nat.succ k) 40 = true) (h4 : A.add .i64 (.ofNat i) 1 = .ofNat (Nat.succ i))
    (hr : lpOf (envV A) 67 bd67 3 (stJ os2 ws m (Nat.succ i)) = r) : lpOf (envV A) 67 bd67 3 (stJ os ws m i) = r := by
  unfold stJ at hr ⊢
  rw [lp_step (envV A) 67 (c0 := bd67) (lv := lvF67) rfl rfl]
  have hnle := hA.nleE; have hneq := hA.neqE
  have klt := hA.lt; have kle := hA.le; have keq := hA.eq; have knle := hA.nle; have kneq := hA.neq
  rw [lp_split (lpOf (envV A) 67 bd67) 3]
  generalize lpOf (envV A) 67 bd67 3 = L3 at e0 e1 e2 e3 e4 e5 e6 e7 e8 e9 h1 h2 h3 h4 hr ⊢
  generalize lpOf (envV A) 67 bd67 = LP
  generalize evl (envV A) = E at e0 e1 e2 e3 e4 e5 e6 e7 e8 e9 h1 h2 h3 h4 hr ⊢
  obtain ⟨aadd, asub, amul, arem, aquo, awr, ashr, aeq, alt, ale, aseq, aslt, acat, acut, asiz, aat, anle, aneq, afit⟩ := A
  simp only at hnle hneq
  subst hnle hneq
  simp only at klt kle keq knle kneq
  try simp only at h1 h2 h3 h4 hr
  conv at e0 => lhs; cbv
  conv at e1 => lhs; cbv
  conv at e2 => lhs; cbv
  conv at e3 => lhs; cbv
  conv at e4 => lhs; cbv
  conv at e5 => lhs; cbv
  conv at e6 => lhs; cbv
  conv at e7 => lhs; cbv
  conv at e8 => lhs; cbv
  conv at e9 => lhs; cbv
  cbv
  rewrite [h2]
  cbv
  rewrite [e0]
  cbv
  rewrite [e3]
  cbv
  rewrite [e2]
  cbv
  rewrite [e1]
  cbv
  rewrite [e4]
  cbv
  rewrite [e5]
  cbv
  rewrite [e6]
  cbv
  rewrite [h1]
  cbv
  rewrite [klt (-1) (0)]
  cbv
  rewrite [e1]
  cbv
  rewrite [e8]
  cbv
  rewrite [e9]
  cbv
  rewrite [h3]
  cbv
  rewrite [h4]
  cbv
  rewrite [hr]
  cbv
theorem lp_join_end (h2 : A.lt (.ofNat i) (.ofNat m) = false) : lpOf (envV A) 67 bd67 3 (stJ os ws m i) = some (.code (.exit 0) (stJe os ws m i)) := by
  unfold stJ stJe
  rw [lp_step (envV A) 67 (c0 := bd67) (lv := lvF67) rfl rfl]
  have hnle := hA.nleE; have hneq := hA.neqE
  have klt := hA.lt; have kle := hA.le; have keq := hA.eq; have knle := hA.nle; have kneq := hA.neq
  generalize lpOf (envV A) 67 bd67 = LP
  generalize evl (envV A) = E at h2 ⊢
  obtain ⟨aadd, asub, amul, arem, aquo, awr, ashr, aeq, alt, ale, aseq, aslt, acat, acut, asiz, aat, anle, aneq, afit⟩ := A
  simp only at hnle hneq
  subst hnle hneq
  simp only at klt kle keq knle kneq
  try simp only at h2
  cbv
  rewrite [h2]
  cbv
/-! the document's New -/
theorem lp_rnew_1 {r : Option Res} (e0 : xs.length = n) (e1 : os.length = k) (e2 : lget xs i = some (.agg [.s (.string a), .s (.string c), .s (.bool st)])) (e3 : Nat.ble (Nat.succ i) n = true) (e8 : Nat.beq k k = true) (e9 : os ++ [.agg [.s (.string a), .s (.string c), .s (.bool st)]] = os2) (h2 : A.lt (.ofNat i) (.ofNat n) = true) (h3 : A.fit (Nat.succ k) 40 = true) (h4 : A.add .i64 (.ofNat i) 1 = .ofNat (Nat.succ i))
    (hr : lpOf (envV A) 70 bd70 3 { n := 44, k := 0, fr := [(0, .sl 3 xs .imm), (3, .sl 3 (bif st then os2 else os) .full), (4, .s (.int .i64 (.ofNat (Nat.succ i))))], O := [] } = r) :
    lpOf (envV A) 70 bd70 3 { n := 44, k := 0, fr := [(0, .sl 3 xs .imm), (3, .sl 3 os .full), (4, .s (.int .i64 (.ofNat i)))], O := [] } = r := by
  cases st <;> simp only [cond_true, cond_false] at hr
  ·
    rw [lp_step (envV A) 70 (c0 := bd70) (lv := lvF70) rfl rfl]
    have hnle := hA.nleE; have hneq := hA.neqE
    have klt := hA.lt; have kle := hA.le; have keq := hA.eq; have knle := hA.nle; have kneq := hA.neq
    rw [lp_split (lpOf (envV A) 70 bd70) 3]
    generalize lpOf (envV A) 70 bd70 3 = L3 at e0 e1 e2 e3 e8 e9 h2 h3 h4 hr ⊢
    generalize lpOf (envV A) 70 bd70 = LP
    generalize evl (envV A) = E at e0 e1 e2 e3 e8 e9 h2 h3 h4 hr ⊢
    obtain ⟨aadd, asub, amul, arem, aquo, awr, ashr, aeq, alt, ale, aseq, aslt, acat, acut, asiz, aat, anle, aneq, afit⟩ := A
    simp only at hnle hneq
    subst hnle hneq
    simp only at klt kle keq knle kneq
    try simp only at h2 h3 h4 hr
    conv at e0 => lhs; cbv
    conv at e1 => lhs; cbv
    conv at e2 => lhs; cbv
    conv at e3 => lhs; cbv
    conv at e8 => lhs; cbv
    conv at e9 => lhs; cbv
    cbv
    rewrite [e0]
    cbv
    rewrite [h2]
    cbv
    rewrite [e2]
    cbv
    rewrite [h4]
    cbv
    rewrite [hr]
    cbv
  ·
    rw [lp_step (envV A) 70 (c0 := bd70) (lv := lvF70) rfl rfl]
    have hnle := hA.nleE; have hneq := hA.neqE
    have klt := hA.lt; have kle := hA.le; have keq := hA.eq; have knle := hA.nle; have kneq := hA.neq
    rw [lp_split (lpOf (envV A) 70 bd70) 3]
    generalize lpOf (envV A) 70 bd70 3 = L3 at e0 e1 e2 e3 e8 e9 h2 h3 h4 hr ⊢
    generalize lpOf (envV A) 70 bd70 = LP
    generalize evl (envV A) = E at e0 e1 e2 e3 e8 e9 h2 h3 h4 hr ⊢
    obtain ⟨aadd, asub, amul, arem, aquo, awr, ashr, aeq, alt, ale, aseq, aslt, acat, acut, asiz, aat, anle, aneq, afit⟩ := A
    simp only at hnle hneq
    subst hnle hneq
    simp only at klt kle keq knle kneq
    try simp only at h2 h3 h4 hr
    conv at e0 => lhs; cbv
    conv at e1 => lhs; cbv
    conv at e2 => lhs; cbv
    conv at e3 => lhs; cbv
    conv at e8 => lhs; cbv
    conv at e9 => lhs; cbv
    cbv
    rewrite [e0]
    cbv
    rewrite [h2]
    cbv
    rewrite [e2]
    cbv
    rewrite [e1]
    cbv
    rewrite [e2]
    cbv
    rewrite [e1]
    cbv
    rewrite [e8]
    cbv
    rewrite [e9]
    cbv
    rewrite [h3]
    cbv
    rewrite [h4]
    cbv
    rewrite [hr]
    cbv
theorem lp_rnew_2 {r : Option Res} (e0 : xs.length = n) (e1 : os.length = k) (e2 : lget xs i = some (.agg [.s (.string a), .s (.string c), .s (.bool st)])) (e3 : Nat.ble (Nat.succ i) n = true) (e8 : Nat.beq k k = true) (e9 : os ++ [.agg [.s (.string a), .s (.string c), .s (.bool st)]] = os2) (h2 : A.lt (.ofNat i) (.ofNat n) = true) (h3 : A.fit (Nat.succ k) 40 = true) (h4 : A.add .i64 (.ofNat i) 1 = .ofNat (Nat.succ i))
    (hr : lpOf (envV A) 70 bd70 8 { n := 44, k := 0, fr := [(0, .sl 3 xs .imm), (3, .sl 3 (bif st then os else os2) .full), (5, .s (.int .i64 (.ofNat (Nat.succ i))))], O := [] } = r) :
    lpOf (envV A) 70 bd70 8 { n := 44, k := 0, fr := [(0, .sl 3 xs .imm), (3, .sl 3 os .full), (5, .s (.int .i64 (.ofNat i)))], O := [] } = r := by
  cases st <;> simp only [cond_true, cond_false] at hr
  ·
    rw [lp_step (envV A) 70 (c0 := bd70) (lv := lvF70) rfl rfl]
    have hnle := hA.nleE; have hneq := hA.neqE
    have klt := hA.lt; have kle := hA.le; have keq := hA.eq; have knle := hA.nle; have kneq := hA.neq
    rw [lp_split (lpOf (envV A) 70 bd70) 8]
    generalize lpOf (envV A) 70 bd70 8 = L8 at e0 e1 e2 e3 e8 e9 h2 h3 h4 hr ⊢
    generalize lpOf (envV A) 70 bd70 = LP
    generalize evl (envV A) = E at e0 e1 e2 e3 e8 e9 h2 h3 h4 hr ⊢
    obtain ⟨aadd, asub, amul, arem, aquo, awr, ashr, aeq, alt, ale, aseq, aslt, acat, acut, asiz, aat, anle, aneq, afit⟩ := A
    simp only at hnle hneq
    subst hnle hneq
    simp only at klt kle keq knle kneq
    try simp only at h2 h3 h4 hr
    conv at e0 => lhs; cbv
    conv at e1 => lhs; cbv
    conv at e2 => lhs; cbv
    conv at e3 => lhs; cbv
    conv at e8 => lhs; cbv
    conv at e9 => lhs; cbv
    cbv
    rewrite [e0]
    cbv
    rewrite [h2]
    cbv
    rewrite [e2]
    cbv
    rewrite [e1]
    cbv
    rewrite [e2]
    cbv
    rewrite [e1]
    cbv
    rewrite [e8]
    cbv
    rewrite [e9]
    cbv
    rewrite [h3]
    cbv
    rewrite [h4]
    cbv
    rewrite [hr]
    cbv
  ·
    rw [lp_step (envV A) 70 (c0 := bd70) (lv := lvF70) rfl rfl]
    have hnle := hA.nleE; have hneq := hA.neqE
    have klt := hA.lt; have kle := hA.le; have keq := hA.eq; have knle := hA.nle; have kneq := hA.neq
    rw [lp_split (lpOf (envV A) 70 bd70) 8]
    generalize lpOf (envV A) 70 bd70 8 = L8 at e0 e1 e2 e3 e8 e9 h2 h3 h4 hr ⊢
    generalize lpOf (envV A) 70 bd70 = LP
    generalize evl (envV A) = E at e0 e1 e2 e3 e8 e9 h2 h3 h4 hr ⊢
    obtain ⟨aadd, asub, amul, arem, aquo, awr, ashr, aeq, alt, ale, aseq, aslt, acat, acut, asiz, aat, anle, aneq, afit⟩ := A
    simp only at hnle hneq
    subst hnle hneq
    simp only at klt kle keq knle kneq
    try simp only at h2 h3 h4 hr
    conv at e0 => lhs; cbv
    conv at e1 => lhs; cbv
    conv at e2 => lhs; cbv
    conv at e3 => lhs; cbv
    conv at e8 => lhs; cbv
    conv at e9 => lhs; cbv
    cbv
    rewrite [e0]
    cbv
    rewrite [h2]
    cbv
    rewrite [e2]
    cbv
    rewrite [h4]
    cbv
    rewrite [hr]
    cbv
theorem lp_rnew_1e (e0 : xs.length = n) (e1 : os.length = k) (h2 : A.lt (.ofNat i) (.ofNat n) = false) :
    lpOf (envV A) 70 bd70 3 { n := 44, k := 0, fr := [(0, .sl 3 xs .imm), (3, .sl 3 os .full), (4, .s (.int .i64 (.ofNat i)))], O := [] } = some (.code (.exit 0) { n := 44, k := 0, fr := [(0, .sl 3 xs .imm), (3, .sl 3 os .full), (4, .s (.int .i64 (.ofNat i))), (9, .s (.bool false))], O := [] }) := by
  rw [lp_step (envV A) 70 (c0 := bd70) (lv := lvF70) rfl rfl]
  have hnle := hA.nleE; have hneq := hA.neqE
  have klt := hA.lt; have kle := hA.le; have keq := hA.eq; have knle := hA.nle; have kneq := hA.neq
  generalize lpOf (envV A) 70 bd70 = LP
  generalize evl (envV A) = E at e0 e1 h2 ⊢
  obtain ⟨aadd, asub, amul, arem, aquo, awr, ashr, aeq, alt, ale, aseq, aslt, acat, acut, asiz, aat, anle, aneq, afit⟩ := A
  simp only at hnle hneq
  subst hnle hneq
  simp only at klt kle keq knle kneq
  try simp only at h2
  conv at e0 => lhs; cbv
  conv at e1 => lhs; cbv
  cbv
  rewrite [e0]
  cbv
  rewrite [h2]
  cbv
theorem lp_rnew_2e (e0 : xs.length = n) (e1 : os.length = k) (h2 : A.lt (.ofNat i) (.ofNat n) = false) :
    lpOf (envV A) 70 bd70 8 { n := 44, k := 0, fr := [(0, .sl 3 xs .imm), (3, .sl 3 os .full), (5, .s (.int .i64 (.ofNat i)))], O := [] } = some (.code (.exit 2) { n := 44, k := 0, fr := [(0, .sl 3 xs .imm), (3, .sl 3 os .full), (5, .s (.int .i64 (.ofNat i))), (27, .s (.bool false))], O := [] }) := by
  rw [lp_step (envV A) 70 (c0 := bd70) (lv := lvF70) rfl rfl]
  have hnle := hA.nleE; have hneq := hA.neqE
  have klt := hA.lt; have kle := hA.le; have keq := hA.eq; have knle := hA.nle; have kneq := hA.neq
  generalize lpOf (envV A) 70 bd70 = LP
  generalize evl (envV A) = E at e0 e1 h2 ⊢
  obtain ⟨aadd, asub, amul, arem, aquo, awr, ashr, aeq, alt, ale, aseq, aslt, acat, acut, asiz, aat, anle, aneq, afit⟩ := A
  simp only at hnle hneq
  subst hnle hneq
  simp only at klt kle keq knle kneq
  try simp only at h2
  conv at e0 => lhs; cbv
  conv at e1 => lhs; cbv
  cbv
  rewrite [e0]
  cbv
  rewrite [h2]
  cbv
theorem eq_rnew (e0 : os.length = k) (e1 : os2.length = k2) (e2 : Nat.ble k2 k2 = true) (e3 : os2.take k2 = os2)
    (h1 : lpOf (envV A) 70 bd70 3 { n := 44, k := 0, fr := [(0, .sl 3 xs .imm), (3, .sl 3 [] .full), (4, .s (.int .i64 0))], O := [] } = some (.code (.exit 0) { n := 44, k := 0, fr := [(0, .sl 3 xs .imm), (3, .sl 3 os .full), (4, .s (.int .i64 (.ofNat n))), (9, .s (.bool false))], O := [] }))
    (h2 : lpOf (envV A) 70 bd70 8 { n := 44, k := 0, fr := [(0, .sl 3 xs .imm), (3, .sl 3 os .full), (5, .s (.int .i64 0))], O := [] } = some (.code (.exit 2) { n := 44, k := 0, fr := [(0, .sl 3 xs .imm), (3, .sl 3 os2 .full), (5, .s (.int .i64 (.ofNat n))), (27, .s (.bool false))], O := [] })) :
    evl (envV A) (.call 70 [.sl 3 xs .imm] []) = some (.ret (.sl 3 os2 .full) []) := by
  rw [evl_fn (envV A) 70 _ _ (fn := Try.f70) (c := bd70) (lv := lvF70) rfl rfl rfl rfl rfl rfl]
  have hnle := hA.nleE; have hneq := hA.neqE
  have klt := hA.lt; have kle := hA.le; have keq := hA.eq; have knle := hA.nle; have kneq := hA.neq
  rw [lp_split (lpOf (envV A) 70 bd70) 3]
  generalize lpOf (envV A) 70 bd70 3 = L3 at e0 e1 e2 e3 h1 h2 ⊢
  rw [lp_split (lpOf (envV A) 70 bd70) 8]
  generalize lpOf (envV A) 70 bd70 8 = L8 at e0 e1 e2 e3 h1 h2 ⊢
  generalize lpOf (envV A) 70 bd70 = LP
  generalize evl (envV A) = E at e0 e1 e2 e3 h1 h2 ⊢
  obtain ⟨aadd, asub, amul, arem, aquo, awr, ashr, aeq, alt, ale, aseq, aslt, acat, acut, asiz, aat, anle, aneq, afit⟩ := A
  simp only at hnle hneq
  subst hnle hneq
  simp only at klt kle keq knle kneq
  try simp only at h1 h2
  conv at e0 => lhs; cbv
  conv at e1 => lhs; cbv
  conv at e2 => lhs; cbv
  conv at e3 => lhs; cbv
  cbv
  rewrite [h1]
  cbv
  rewrite [h2]
  cbv
  rewrite [e1]
  cbv
  rewrite [e2]
  cbv
  rewrite [e3]
  cbv
theorem eq_attr_New (e0 : os.length = k) (e1 : ws.length = m) (e2 : Nat.beq k k = true) (e3 : k + m = k2) (e4 : os ++ ws = zs) (e5 : zs.length = k2) (e6 : Nat.ble k2 k2 = true) (e7 : zs.take k2 = zs) (h1 : evl (envV A) (.call 92 [.sl 3 xs .imm, .s (.bool true)] []) = some (.ret (.sl 3 os .full) [])) (h2 : evl (envV A) (.call 92 [.sl 3 xs .imm, .s (.bool false)] []) = some (.ret (.sl 3 ws .full) [])) (h3 : A.fit k2 40 = true) :
    evl (envV A) (.call 69 [.sl 3 xs .imm] []) = some (.ret (.sl 3 zs .full) []) := by
  rw [evl_fn (envV A) 69 _ _ (fn := Try.f69) (c := bd69) (lv := lvF69) rfl rfl rfl rfl rfl rfl]
  have hnle := hA.nleE; have hneq := hA.neqE
  have klt := hA.lt; have kle := hA.le; have keq := hA.eq; have knle := hA.nle; have kneq := hA.neq
  generalize lpOf (envV A) 69 bd69 = LP
  generalize evl (envV A) = E at e0 e1 e2 e3 e4 e5 e6 e7 h1 h2 h3 ⊢
  obtain ⟨aadd, asub, amul, arem, aquo, awr, ashr, aeq, alt, ale, aseq, aslt, acat, acut, asiz, aat, anle, aneq, afit⟩ := A
  simp only at hnle hneq
  subst hnle hneq
  simp only at klt kle keq knle kneq
  try simp only at h1 h2 h3
  conv at e0 => lhs; cbv
  conv at e1 => lhs; cbv
  conv at e2 => lhs; cbv
  conv at e3 => lhs; cbv
  conv at e4 => lhs; cbv
  conv at e5 => lhs; cbv
  conv at e6 => lhs; cbv
  conv at e7 => lhs; cbv
  cbv
  rewrite [h1]
  cbv
  rewrite [h2]
  cbv
  rewrite [e0]
  cbv
  rewrite [e1]
  cbv
  rewrite [e3]
  cbv
  rewrite [e4]
  cbv
  rewrite [h3]
  cbv
theorem eq_attr_Find (e0 : xs.length = n) (e1 : lget xs i = some (.agg [.s (.string a), .s (.string c), .s (.bool st)])) (e2 : Nat.ble (Nat.succ i) n = true) (nm : ByteArray) (h1 : evl (envV A) (.call 90 [.sl 3 xs .imm, .s (.string nm)] []) = some (.ret (.s (.int .i64 (.ofNat i))) [])) (h2 : A.lt (.ofNat i) 0 = false) :
    evl (envV A) (.call 62 [.sl 3 xs .imm, .s (.string nm)] []) = some (.ret (.tup [.agg [.s (.string a), .s (.string c), .s (.bool st)], .s (.bool true)]) []) := by
  rw [evl_fn (envV A) 62 _ _ (fn := Try.f62) (c := bd62) (lv := lvF62) rfl rfl rfl rfl rfl rfl]
  have hnle := hA.nleE; have hneq := hA.neqE
  have klt := hA.lt; have kle := hA.le; have keq := hA.eq; have knle := hA.nle; have kneq := hA.neq
  generalize lpOf (envV A) 62 bd62 = LP
  generalize evl (envV A) = E at e0 e1 e2 h1 h2 ⊢
  obtain ⟨aadd, asub, amul, arem, aquo, awr, ashr, aeq, alt, ale, aseq, aslt, acat, acut, asiz, aat, anle, aneq, afit⟩ := A
  simp only at hnle hneq
  subst hnle hneq
  simp only at klt kle keq knle kneq
  try simp only at h1 h2
  conv at e0 => lhs; cbv
  conv at e1 => lhs; cbv
  conv at e2 => lhs; cbv
  cbv
  rewrite [h1]
  cbv
  rewrite [h2]
  cbv
  rewrite [e1]
  cbv
theorem eq_attr_Find0 (e0 : xs.length = n) (nm : ByteArray) (h1 : evl (envV A) (.call 90 [.sl 3 xs .imm, .s (.string nm)] []) = some (.ret (.s (.int .i64 (-1))) [])) :
    evl (envV A) (.call 62 [.sl 3 xs .imm, .s (.string nm)] []) = some (.ret (.tup [.agg [.s (.string ⟨#[]⟩), .s (.string ⟨#[]⟩), .s (.bool false)], .s (.bool false)]) []) := by
  rw [evl_fn (envV A) 62 _ _ (fn := Try.f62) (c := bd62) (lv := lvF62) rfl rfl rfl rfl rfl rfl]
  have hnle := hA.nleE; have hneq := hA.neqE
  have klt := hA.lt; have kle := hA.le; have keq := hA.eq; have knle := hA.nle; have kneq := hA.neq
  generalize lpOf (envV A) 62 bd62 = LP
  generalize evl (envV A) = E at e0 h1 ⊢
  obtain ⟨aadd, asub, amul, arem, aquo, awr, ashr, aeq, alt, ale, aseq, aslt, acat, acut, asiz, aat, anle, aneq, afit⟩ := A
  simp only at hnle hneq
  subst hnle hneq
  simp only at klt kle keq knle kneq
  try simp only at h1
  conv at e0 => lhs; cbv
  cbv
  rewrite [h1]
  cbv
  rewrite [klt (-1) (0)]
  cbv
end
end Go.Va
namespace Go.Va
open Go.Proofs
set_option maxRecDepth 100000
set_option maxHeartbeats 4000000
def stT1 (xs ys os : List AV) (i : Nat) : St := { n := 74, k := 0, fr := [(0, .sl 3 xs .imm), (1, .sl 3 ys .imm), (5, .sl 3 os .full), (6, .s (.int .i64 (.ofNat i)))], O := [] }
def stT2 (ys os : List AV) (i : Nat) : St := { n := 74, k := 0, fr := [(1, .sl 3 ys .imm), (5, .sl 3 os .full), (7, .s (.int .i64 (.ofNat i)))], O := [] }
def stT3 (ys os : List AV) (i j : Nat) (met : Bool) : St := { n := 74, k := 0, fr := [(1, .sl 3 ys .imm), (5, .sl 3 os .full), (7, .s (.int .i64 (.ofNat i))), (8, .s (.bool met)), (9, .s (.int .i64 (.ofNat j)))], O := [] }
def stT3e (ys os : List AV) (i j : Nat) (met : Bool) : St := { n := 74, k := 0, fr := [(1, .sl 3 ys .imm), (5, .sl 3 os .full), (7, .s (.int .i64 (.ofNat i))), (8, .s (.bool met)), (9, .s (.int .i64 (.ofNat j))), (42, .s (.bool false))], O := [] }
section
variable (A : Ar) (hA : ArOk A) (xs ys os os2 ws zs : List AV) (n m i j k k2 : Nat) (a c : ByteArray) (st b q : Bool)
include hA
theorem eq_attr_Join_few (p : Perm) (hp : p = .ro ∨ p = .imm) (e0 : os.length = k) (e1 : ws.length = m) (e2 : Nat.ble m m = true) (e3 : os2.length = k2) (e4 : Nat.ble k2 k2 = true) (e5 : os2.take k2 = os2) (e6 : lcut os2 0 k2 = os2) (e7 : 0 + k2 = k2) (h1 : evl (envV A) (.call 92 [.sl 3 xs p, .s (.bool true)] []) = some (.ret (.sl 3 os .full) [])) (h2 : evl (envV A) (.call 92 [.sl 3 ys .imm, .s (.bool false)] []) = some (.ret (.sl 3 ws .full) []))
    (h3 : lpOf (envV A) 67 bd67 3 { n := 32, k := 0, fr := [(5, .sl 3 os .full), (11, .sl 3 ws .full), (12, .s (.int .i64 (.ofNat m))), (13, .s (.int .i64 0))], O := [] } = some (.code (.exit 0) (stJe os2 ws m m))) (h4 : A.lt 8 (.ofNat k2) = false) :
    evl (envV A) (.call 67 [.sl 3 xs p, .sl 3 ys .imm] []) = some (.ret (.sl 3 os2 .full) []) := by
  unfold stJe at h3
  rcases hp with rfl | rfl
  ·
    rw [evl_fn (envV A) 67 _ _ (fn := Try.f67) (c := bd67) (lv := lvF67) rfl rfl rfl rfl rfl rfl]
    have hnle := hA.nleE; have hneq := hA.neqE
    have klt := hA.lt; have kle := hA.le; have keq := hA.eq; have knle := hA.nle; have kneq := hA.neq
    rw [lp_split (lpOf (envV A) 67 bd67) 3]
    generalize lpOf (envV A) 67 bd67 3 = L3 at e0 e1 e2 e3 e4 e5 e6 e7 h1 h2 h3 h4 ⊢
    generalize lpOf (envV A) 67 bd67 = LP
    generalize evl (envV A) = E at e0 e1 e2 e3 e4 e5 e6 e7 h1 h2 h3 h4 ⊢
    obtain ⟨aadd, asub, amul, arem, aquo, awr, ashr, aeq, alt, ale, aseq, aslt, acat, acut, asiz, aat, anle, aneq, afit⟩ := A
    simp only at hnle hneq
    subst hnle hneq
    simp only at klt kle keq knle kneq
    try simp only at h1 h2 h3 h4
    conv at e0 => lhs; cbv
    conv at e1 => lhs; cbv
    conv at e2 => lhs; cbv
    conv at e3 => lhs; cbv
    conv at e4 => lhs; cbv
    conv at e5 => lhs; cbv
    conv at e6 => lhs; cbv
    conv at e7 => lhs; cbv
    cbv
    rewrite [h1]
    cbv
    rewrite [h2]
    cbv
    rewrite [e1]
    cbv
    rewrite [h3]
    cbv
    rewrite [e3]
    cbv
    rewrite [h4]
    cbv
    rewrite [e4]
    cbv
    rewrite [e3]
    cbv
    rewrite [e4]
    cbv
    rewrite [e5]
    cbv
  ·
    rw [evl_fn (envV A) 67 _ _ (fn := Try.f67) (c := bd67) (lv := lvF67) rfl rfl rfl rfl rfl rfl]
    have hnle := hA.nleE; have hneq := hA.neqE
    have klt := hA.lt; have kle := hA.le; have keq := hA.eq; have knle := hA.nle; have kneq := hA.neq
    rw [lp_split (lpOf (envV A) 67 bd67) 3]
    generalize lpOf (envV A) 67 bd67 3 = L3 at e0 e1 e2 e3 e4 e5 e6 e7 h1 h2 h3 h4 ⊢
    generalize lpOf (envV A) 67 bd67 = LP
    generalize evl (envV A) = E at e0 e1 e2 e3 e4 e5 e6 e7 h1 h2 h3 h4 ⊢
    obtain ⟨aadd, asub, amul, arem, aquo, awr, ashr, aeq, alt, ale, aseq, aslt, acat, acut, asiz, aat, anle, aneq, afit⟩ := A
    simp only at hnle hneq
    subst hnle hneq
    simp only at klt kle keq knle kneq
    try simp only at h1 h2 h3 h4
    conv at e0 => lhs; cbv
    conv at e1 => lhs; cbv
    conv at e2 => lhs; cbv
    conv at e3 => lhs; cbv
    conv at e4 => lhs; cbv
    conv at e5 => lhs; cbv
    conv at e6 => lhs; cbv
    conv at e7 => lhs; cbv
    cbv
    rewrite [h1]
    cbv
    rewrite [h2]
    cbv
    rewrite [e1]
    cbv
    rewrite [h3]
    cbv
    rewrite [e3]
    cbv
    rewrite [h4]
    cbv
    rewrite [e4]
    cbv
    rewrite [e3]
    cbv
    rewrite [e4]
    cbv
    rewrite [e5]
    cbv
theorem eq_attr_Join_many (p : Perm) (hp : p = .ro ∨ p = .imm) (e0 : os.length = k) (e1 : ws.length = m) (e2 : Nat.ble m m = true) (e3 : os2.length = k2) (e4 : Nat.ble 8 k2 = true) (e5 : os2.take 8 = zs) (e6 : zs.length = 8) (e7 : zs.take 8 = zs) (h1 : evl (envV A) (.call 92 [.sl 3 xs p, .s (.bool true)] []) = some (.ret (.sl 3 os .full) [])) (h2 : evl (envV A) (.call 92 [.sl 3 ys .imm, .s (.bool false)] []) = some (.ret (.sl 3 ws .full) []))
    (h3 : lpOf (envV A) 67 bd67 3 { n := 32, k := 0, fr := [(5, .sl 3 os .full), (11, .sl 3 ws .full), (12, .s (.int .i64 (.ofNat m))), (13, .s (.int .i64 0))], O := [] } = some (.code (.exit 0) (stJe os2 ws m m))) (h4 : A.lt 8 (.ofNat k2) = true) :
    evl (envV A) (.call 67 [.sl 3 xs p, .sl 3 ys .imm] []) = some (.ret (.sl 3 zs .full) []) := by
  unfold stJe at h3
  rcases hp with rfl | rfl
  ·
    rw [evl_fn (envV A) 67 _ _ (fn := Try.f67) (c := bd67) (lv := lvF67) rfl rfl rfl rfl rfl rfl]
    have hnle := hA.nleE; have hneq := hA.neqE
    have klt := hA.lt; have kle := hA.le; have keq := hA.eq; have knle := hA.nle; have kneq := hA.neq
    rw [lp_split (lpOf (envV A) 67 bd67) 3]
    generalize lpOf (envV A) 67 bd67 3 = L3 at e0 e1 e2 e3 e4 e5 e6 e7 h1 h2 h3 h4 ⊢
    generalize lpOf (envV A) 67 bd67 = LP
    generalize evl (envV A) = E at e0 e1 e2 e3 e4 e5 e6 e7 h1 h2 h3 h4 ⊢
    obtain ⟨aadd, asub, amul, arem, aquo, awr, ashr, aeq, alt, ale, aseq, aslt, acat, acut, asiz, aat, anle, aneq, afit⟩ := A
    simp only at hnle hneq
    subst hnle hneq
    simp only at klt kle keq knle kneq
    try simp only at h1 h2 h3 h4
    conv at e0 => lhs; cbv
    conv at e1 => lhs; cbv
    conv at e2 => lhs; cbv
    conv at e3 => lhs; cbv
    conv at e4 => lhs; cbv
    conv at e5 => lhs; cbv
    conv at e6 => lhs; cbv
    conv at e7 => lhs; cbv
    cbv
    rewrite [h1]
    cbv
    rewrite [h2]
    cbv
    rewrite [e1]
    cbv
    rewrite [h3]
    cbv
    rewrite [e3]
    cbv
    rewrite [h4]
    cbv
    rewrite [e4]
    cbv
    rewrite [e3]
    cbv
    rewrite [e4]
    cbv
    rewrite [e5]
    cbv
  ·
    rw [evl_fn (envV A) 67 _ _ (fn := Try.f67) (c := bd67) (lv := lvF67) rfl rfl rfl rfl rfl rfl]
    have hnle := hA.nleE; have hneq := hA.neqE
    have klt := hA.lt; have kle := hA.le; have keq := hA.eq; have knle := hA.nle; have kneq := hA.neq
    rw [lp_split (lpOf (envV A) 67 bd67) 3]
    generalize lpOf (envV A) 67 bd67 3 = L3 at e0 e1 e2 e3 e4 e5 e6 e7 h1 h2 h3 h4 ⊢
    generalize lpOf (envV A) 67 bd67 = LP
    generalize evl (envV A) = E at e0 e1 e2 e3 e4 e5 e6 e7 h1 h2 h3 h4 ⊢
    obtain ⟨aadd, asub, amul, arem, aquo, awr, ashr, aeq, alt, ale, aseq, aslt, acat, acut, asiz, aat, anle, aneq, afit⟩ := A
    simp only at hnle hneq
    subst hnle hneq
    simp only at klt kle keq knle kneq
    try simp only at h1 h2 h3 h4
    conv at e0 => lhs; cbv
    conv at e1 => lhs; cbv
    conv at e2 => lhs; cbv
    conv at e3 => lhs; cbv
    conv at e4 => lhs; cbv
    conv at e5 => lhs; cbv
    conv at e6 => lhs; cbv
    conv at e7 => lhs; cbv
    cbv
    rewrite [h1]
    cbv
    rewrite [h2]
    cbv
    rewrite [e1]
    cbv
    rewrite [h3]
    cbv
    rewrite [e3]
    cbv
    rewrite [h4]
    cbv
    rewrite [e4]
    cbv
    rewrite [e3]
    cbv
    rewrite [e4]
    cbv
    rewrite [e5]
    cbv
/-! the document's Join -/
theorem lp_rj_1 {r : Option Res} (e0 : xs.length = n) (e1 : os.length = k) (e2 : lget xs i = some (.agg [.s (.string a), .s (.string c), .s (.bool st)])) (e3 : Nat.ble (Nat.succ i) n = true) (e8 : Nat.beq k k = true) (e9 : os ++ [.agg [.s (.string a), .s (.string c), .s (.bool st)]] = os2) (h2 : A.lt (.ofNat i) (.ofNat n) = true) (h3 : A.fit (Nat.succ k) 40 = true) (h4 : A.add .i64 (.ofNat i) 1 = .ofNat (Nat.succ i))
    (hr : lpOf (envV A) 68 bd68 3 (stT1 xs ys (bif st then os2 else os) (Nat.succ i)) = r) : lpOf (envV A) 68 bd68 3 (stT1 xs ys os i) = r := by
  unfold stT1 at hr ⊢
  cases st <;> simp only [cond_true, cond_false] at hr
  ·
    rw [lp_step (envV A) 68 (c0 := bd68) (lv := lvF68) rfl rfl]
    have hnle := hA.nleE; have hneq := hA.neqE
    have klt := hA.lt; have kle := hA.le; have keq := hA.eq; have knle := hA.nle; have kneq := hA.neq
    rw [lp_split (lpOf (envV A) 68 bd68) 3]
    generalize lpOf (envV A) 68 bd68 3 = L3 at e0 e1 e2 e3 e8 e9 h2 h3 h4 hr ⊢
    generalize lpOf (envV A) 68 bd68 = LP
    generalize evl (envV A) = E at e0 e1 e2 e3 e8 e9 h2 h3 h4 hr ⊢
    obtain ⟨aadd, asub, amul, arem, aquo, awr, ashr, aeq, alt, ale, aseq, aslt, acat, acut, asiz, aat, anle, aneq, afit⟩ := A
    simp only at hnle hneq
    subst hnle hneq
    simp only at klt kle keq knle kneq
    try simp only at h2 h3 h4 hr
    conv at e0 => lhs; cbv
    conv at e1 => lhs; cbv
    conv at e2 => lhs; cbv
    conv at e3 => lhs; cbv
    conv at e8 => lhs; cbv
    conv at e9 => lhs; cbv
    cbv
    rewrite [e0]
    cbv
    rewrite [h2]
    cbv
    rewrite [e2]
    cbv
    rewrite [h4]
    cbv
    rewrite [hr]
    cbv
  ·
    rw [lp_step (envV A) 68 (c0 := bd68) (lv := lvF68) rfl rfl]
    have hnle := hA.nleE; have hneq := hA.neqE
    have klt := hA.lt; have kle := hA.le; have keq := hA.eq; have knle := hA.nle; have kneq := hA.neq
    rw [lp_split (lpOf (envV A) 68 bd68) 3]
    generalize lpOf (envV A) 68 bd68 3 = L3 at e0 e1 e2 e3 e8 e9 h2 h3 h4 hr ⊢
    generalize lpOf (envV A) 68 bd68 = LP
    generalize evl (envV A) = E at e0 e1 e2 e3 e8 e9 h2 h3 h4 hr ⊢
    obtain ⟨aadd, asub, amul, arem, aquo, awr, ashr, aeq, alt, ale, aseq, aslt, acat, acut, asiz, aat, anle, aneq, afit⟩ := A
    simp only at hnle hneq
    subst hnle hneq
    simp only at klt kle keq knle kneq
    try simp only at h2 h3 h4 hr
    conv at e0 => lhs; cbv
    conv at e1 => lhs; cbv
    conv at e2 => lhs; cbv
    conv at e3 => lhs; cbv
    conv at e8 => lhs; cbv
    conv at e9 => lhs; cbv
    cbv
    rewrite [e0]
    cbv
    rewrite [h2]
    cbv
    rewrite [e2]
    cbv
    rewrite [e1]
    cbv
    rewrite [e2]
    cbv
    rewrite [e1]
    cbv
    rewrite [e8]
    cbv
    rewrite [e9]
    cbv
    rewrite [h3]
    cbv
    rewrite [h4]
    cbv
    rewrite [hr]
    cbv
theorem lp_rj_1e (e0 : xs.length = n) (e1 : os.length = k) (h2 : A.lt (.ofNat i) (.ofNat n) = false) :
    lpOf (envV A) 68 bd68 3 (stT1 xs ys os i) = some (.code (.exit 0) { n := 74, k := 0, fr := [(0, .sl 3 xs .imm), (1, .sl 3 ys .imm), (5, .sl 3 os .full), (6, .s (.int .i64 (.ofNat i))), (13, .s (.bool false))], O := [] }) := by
  unfold stT1
  rw [lp_step (envV A) 68 (c0 := bd68) (lv := lvF68) rfl rfl]
  have hnle := hA.nleE; have hneq := hA.neqE
  have klt := hA.lt; have kle := hA.le; have keq := hA.eq; have knle := hA.nle; have kneq := hA.neq
  generalize lpOf (envV A) 68 bd68 = LP
  generalize evl (envV A) = E at e0 e1 h2 ⊢
  obtain ⟨aadd, asub, amul, arem, aquo, awr, ashr, aeq, alt, ale, aseq, aslt, acat, acut, asiz, aat, anle, aneq, afit⟩ := A
  simp only at hnle hneq
  subst hnle hneq
  simp only at klt kle keq knle kneq
  try simp only at h2
  conv at e0 => lhs; cbv
  conv at e1 => lhs; cbv
  cbv
  rewrite [e0]
  cbv
  rewrite [h2]
  cbv
theorem lp_rj_3 {r : Option Res} (met : Bool) (a2 c2 : ByteArray) (st2 : Bool) (e0 : ys.length = m) (e1 : os.length = k) (e2 : lget os j = some (.agg [.s (.string a), .s (.string c), .s (.bool st)])) (e3 : Nat.ble (Nat.succ j) k = true) (e4 : lget ys i = some (.agg [.s (.string a2), .s (.string c2), .s (.bool st2)])) (e5 : Nat.ble (Nat.succ i) m = true) (e6 : 0 + j = j) (h2 : A.lt (.ofNat j) (.ofNat k) = true) (h4 : A.add .i64 (.ofNat j) 1 = .ofNat (Nat.succ j))
    (hr : lpOf (envV A) 68 bd68 12 (stT3 ys os i (Nat.succ j) (bif met then true else A.seq a a2)) = r) : lpOf (envV A) 68 bd68 12 (stT3 ys os i j met) = r := by
  unfold stT3 at hr ⊢
  cases met <;> simp only [cond_true, cond_false] at hr
  ·
    rw [lp_step (envV A) 68 (c0 := bd68) (lv := lvF68) rfl rfl]
    have hnle := hA.nleE; have hneq := hA.neqE
    have klt := hA.lt; have kle := hA.le; have keq := hA.eq; have knle := hA.nle; have kneq := hA.neq
    rw [lp_split (lpOf (envV A) 68 bd68) 12]
    generalize lpOf (envV A) 68 bd68 12 = L12 at e0 e1 e2 e3 e4 e5 e6 h2 h4 hr ⊢
    generalize lpOf (envV A) 68 bd68 = LP
    generalize evl (envV A) = E at e0 e1 e2 e3 e4 e5 e6 h2 h4 hr ⊢
    obtain ⟨aadd, asub, amul, arem, aquo, awr, ashr, aeq, alt, ale, aseq, aslt, acat, acut, asiz, aat, anle, aneq, afit⟩ := A
    simp only at hnle hneq
    subst hnle hneq
    simp only at klt kle keq knle kneq
    try simp only at h2 h4 hr
    conv at e0 => lhs; cbv
    conv at e1 => lhs; cbv
    conv at e2 => lhs; cbv
    conv at e3 => lhs; cbv
    conv at e4 => lhs; cbv
    conv at e5 => lhs; cbv
    conv at e6 => lhs; cbv
    cbv
    rewrite [e1]
    cbv
    rewrite [h2]
    cbv
    rewrite [e1]
    cbv
    rewrite [e3]
    cbv
    rewrite [e6]
    cbv
    rewrite [e2]
    cbv
    rewrite [e4]
    cbv
    rewrite [h4]
    cbv
    rewrite [hr]
    cbv
  ·
    rw [lp_step (envV A) 68 (c0 := bd68) (lv := lvF68) rfl rfl]
    have hnle := hA.nleE; have hneq := hA.neqE
    have klt := hA.lt; have kle := hA.le; have keq := hA.eq; have knle := hA.nle; have kneq := hA.neq
    rw [lp_split (lpOf (envV A) 68 bd68) 12]
    generalize lpOf (envV A) 68 bd68 12 = L12 at e0 e1 e2 e3 e4 e5 e6 h2 h4 hr ⊢
    generalize lpOf (envV A) 68 bd68 = LP
    generalize evl (envV A) = E at e0 e1 e2 e3 e4 e5 e6 h2 h4 hr ⊢
    obtain ⟨aadd, asub, amul, arem, aquo, awr, ashr, aeq, alt, ale, aseq, aslt, acat, acut, asiz, aat, anle, aneq, afit⟩ := A
    simp only at hnle hneq
    subst hnle hneq
    simp only at klt kle keq knle kneq
    try simp only at h2 h4 hr
    conv at e0 => lhs; cbv
    conv at e1 => lhs; cbv
    conv at e2 => lhs; cbv
    conv at e3 => lhs; cbv
    conv at e4 => lhs; cbv
    conv at e5 => lhs; cbv
    conv at e6 => lhs; cbv
    cbv
    rewrite [e1]
    cbv
    rewrite [h2]
    cbv
    rewrite [h4]
    cbv
    rewrite [hr]
    cbv
theorem lp_rj_3e (met : Bool) (e1 : os.length = k) (h2 : A.lt (.ofNat j) (.ofNat k) = false) :
    lpOf (envV A) 68 bd68 12 (stT3 ys os i j met) = some (.code (.exit 4) (stT3e ys os i j met)) := by
  unfold stT3 stT3e
  rw [lp_step (envV A) 68 (c0 := bd68) (lv := lvF68) rfl rfl]
  have hnle := hA.nleE; have hneq := hA.neqE
  have klt := hA.lt; have kle := hA.le; have keq := hA.eq; have knle := hA.nle; have kneq := hA.neq
  generalize lpOf (envV A) 68 bd68 = LP
  generalize evl (envV A) = E at e1 h2 ⊢
  obtain ⟨aadd, asub, amul, arem, aquo, awr, ashr, aeq, alt, ale, aseq, aslt, acat, acut, asiz, aat, anle, aneq, afit⟩ := A
  simp only at hnle hneq
  subst hnle hneq
  simp only at klt kle keq knle kneq
  try simp only at h2
  conv at e1 => lhs; cbv
  cbv
  rewrite [e1]
  cbv
  rewrite [h2]
  cbv
theorem lp_rj_2 {r : Option Res} (met : Bool) (e0 : ys.length = m) (e1 : os.length = k) (e2 : lget ys i = some (.agg [.s (.string a), .s (.string c), .s (.bool st)])) (e3 : Nat.ble (Nat.succ i) m = true) (e8 : Nat.beq k k = true) (e9 : os ++ [.agg [.s (.string a), .s (.string c), .s (.bool st)]] = os2) (h2 : A.lt (.ofNat i) (.ofNat m) = true) (h3 : A.fit (Nat.succ k) 40 = true) (h4 : A.add .i64 (.ofNat i) 1 = .ofNat (Nat.succ i))
    (h5 : lpOf (envV A) 68 bd68 12 { n := 74, k := 0, fr := [(1, .sl 3 ys .imm), (5, .sl 3 os .full), (7, .s (.int .i64 (.ofNat i))), (8, .s (.bool st)), (9, .s (.int .i64 0))], O := [] } = some (.code (.exit 4) (stT3e ys os i k met)))
    (hr : lpOf (envV A) 68 bd68 8 (stT2 ys (bif met then os else os2) (Nat.succ i)) = r) : lpOf (envV A) 68 bd68 8 (stT2 ys os i) = r := by
  unfold stT2 at hr ⊢
  unfold stT3e at h5
  cases met <;> simp only [cond_true, cond_false] at hr
  ·
    rw [lp_step (envV A) 68 (c0 := bd68) (lv := lvF68) rfl rfl]
    have hnle := hA.nleE; have hneq := hA.neqE
    have klt := hA.lt; have kle := hA.le; have keq := hA.eq; have knle := hA.nle; have kneq := hA.neq
    rw [lp_split (lpOf (envV A) 68 bd68) 8]
    generalize lpOf (envV A) 68 bd68 8 = L8 at e0 e1 e2 e3 e8 e9 h2 h3 h4 h5 hr ⊢
    rw [lp_split (lpOf (envV A) 68 bd68) 12]
    generalize lpOf (envV A) 68 bd68 12 = L12 at e0 e1 e2 e3 e8 e9 h2 h3 h4 h5 hr ⊢
    generalize lpOf (envV A) 68 bd68 = LP
    generalize evl (envV A) = E at e0 e1 e2 e3 e8 e9 h2 h3 h4 h5 hr ⊢
    obtain ⟨aadd, asub, amul, arem, aquo, awr, ashr, aeq, alt, ale, aseq, aslt, acat, acut, asiz, aat, anle, aneq, afit⟩ := A
    simp only at hnle hneq
    subst hnle hneq
    simp only at klt kle keq knle kneq
    try simp only at h2 h3 h4 h5 hr
    conv at e0 => lhs; cbv
    conv at e1 => lhs; cbv
    conv at e2 => lhs; cbv
    conv at e3 => lhs; cbv
    conv at e8 => lhs; cbv
    conv at e9 => lhs; cbv
    cbv
    rewrite [e0]
    cbv
    rewrite [h2]
    cbv
    rewrite [e2]
    cbv
    rewrite [h5]
    cbv
    rewrite [e1]
    cbv
    rewrite [e2]
    cbv
    rewrite [e1]
    cbv
    rewrite [e8]
    cbv
    rewrite [e9]
    cbv
    rewrite [h3]
    cbv
    rewrite [h4]
    cbv
    rewrite [hr]
    cbv
  ·
    rw [lp_step (envV A) 68 (c0 := bd68) (lv := lvF68) rfl rfl]
    have hnle := hA.nleE; have hneq := hA.neqE
    have klt := hA.lt; have kle := hA.le; have keq := hA.eq; have knle := hA.nle; have kneq := hA.neq
    rw [lp_split (lpOf (envV A) 68 bd68) 8]
    generalize lpOf (envV A) 68 bd68 8 = L8 at e0 e1 e2 e3 e8 e9 h2 h3 h4 h5 hr ⊢
    rw [lp_split (lpOf (envV A) 68 bd68) 12]
    generalize lpOf (envV A) 68 bd68 12 = L12 at e0 e1 e2 e3 e8 e9 h2 h3 h4 h5 hr ⊢
    generalize lpOf (envV A) 68 bd68 = LP
    generalize evl (envV A) = E at e0 e1 e2 e3 e8 e9 h2 h3 h4 h5 hr ⊢
    obtain ⟨aadd, asub, amul, arem, aquo, awr, ashr, aeq, alt, ale, aseq, aslt, acat, acut, asiz, aat, anle, aneq, afit⟩ := A
    simp only at hnle hneq
    subst hnle hneq
    simp only at klt kle keq knle kneq
    try simp only at h2 h3 h4 h5 hr
    conv at e0 => lhs; cbv
    conv at e1 => lhs; cbv
    conv at e2 => lhs; cbv
    conv at e3 => lhs; cbv
    conv at e8 => lhs; cbv
    conv at e9 => lhs; cbv
    cbv
    rewrite [e0]
    cbv
    rewrite [h2]
    cbv
    rewrite [e2]
    cbv
    rewrite [h5]
    cbv
    rewrite [h4]
    cbv
    rewrite [hr]
    cbv
theorem lp_rj_2e (e0 : ys.length = m) (e1 : os.length = k) (h2 : A.lt (.ofNat i) (.ofNat m) = false) :
    lpOf (envV A) 68 bd68 8 (stT2 ys os i) = some (.code (.exit 2) { n := 74, k := 0, fr := [(1, .sl 3 ys .imm), (5, .sl 3 os .full), (7, .s (.int .i64 (.ofNat i))), (31, .s (.bool false))], O := [] }) := by
  unfold stT2
  rw [lp_step (envV A) 68 (c0 := bd68) (lv := lvF68) rfl rfl]
  have hnle := hA.nleE; have hneq := hA.neqE
  have klt := hA.lt; have kle := hA.le; have keq := hA.eq; have knle := hA.nle; have kneq := hA.neq
  generalize lpOf (envV A) 68 bd68 = LP
  generalize evl (envV A) = E at e0 e1 h2 ⊢
  obtain ⟨aadd, asub, amul, arem, aquo, awr, ashr, aeq, alt, ale, aseq, aslt, acat, acut, asiz, aat, anle, aneq, afit⟩ := A
  simp only at hnle hneq
  subst hnle hneq
  simp only at klt kle keq knle kneq
  try simp only at h2
  conv at e0 => lhs; cbv
  conv at e1 => lhs; cbv
  cbv
  rewrite [e0]
  cbv
  rewrite [h2]
  cbv
theorem eq_rj_few (e0 : os.length = k) (e1 : os2.length = k2) (e2 : Nat.ble k2 k2 = true) (e3 : os2.take k2 = os2) (h3 : A.lt 8 (.ofNat k2) = false)
    (h1 : lpOf (envV A) 68 bd68 3 { n := 74, k := 0, fr := [(0, .sl 3 xs .imm), (1, .sl 3 ys .imm), (5, .sl 3 [] .full), (6, .s (.int .i64 0))], O := [] } = some (.code (.exit 0) { n := 74, k := 0, fr := [(0, .sl 3 xs .imm), (1, .sl 3 ys .imm), (5, .sl 3 os .full), (6, .s (.int .i64 (.ofNat n))), (13, .s (.bool false))], O := [] }))
    (h2 : lpOf (envV A) 68 bd68 8 { n := 74, k := 0, fr := [(1, .sl 3 ys .imm), (5, .sl 3 os .full), (7, .s (.int .i64 0))], O := [] } = some (.code (.exit 2) { n := 74, k := 0, fr := [(1, .sl 3 ys .imm), (5, .sl 3 os2 .full), (7, .s (.int .i64 (.ofNat m))), (31, .s (.bool false))], O := [] })) :
    evl (envV A) (.call 68 [.sl 3 xs .imm, .sl 3 ys .imm] []) = some (.ret (.sl 3 os2 .full) []) := by
  rw [evl_fn (envV A) 68 _ _ (fn := Try.f68) (c := bd68) (lv := lvF68) rfl rfl rfl rfl rfl rfl]
  have hnle := hA.nleE; have hneq := hA.neqE
  have klt := hA.lt; have kle := hA.le; have keq := hA.eq; have knle := hA.nle; have kneq := hA.neq
  rw [lp_split (lpOf (envV A) 68 bd68) 3]
  generalize lpOf (envV A) 68 bd68 3 = L3 at e0 e1 e2 e3 h1 h2 h3 ⊢
  rw [lp_split (lpOf (envV A) 68 bd68) 8]
  generalize lpOf (envV A) 68 bd68 8 = L8 at e0 e1 e2 e3 h1 h2 h3 ⊢
  generalize lpOf (envV A) 68 bd68 = LP
  generalize evl (envV A) = E at e0 e1 e2 e3 h1 h2 h3 ⊢
  obtain ⟨aadd, asub, amul, arem, aquo, awr, ashr, aeq, alt, ale, aseq, aslt, acat, acut, asiz, aat, anle, aneq, afit⟩ := A
  simp only at hnle hneq
  subst hnle hneq
  simp only at klt kle keq knle kneq
  try simp only at h1 h2 h3
  conv at e0 => lhs; cbv
  conv at e1 => lhs; cbv
  conv at e2 => lhs; cbv
  conv at e3 => lhs; cbv
  cbv
  rewrite [h1]
  cbv
  rewrite [h2]
  cbv
  rewrite [e1]
  cbv
  rewrite [h3]
  cbv
  rewrite [e1]
  cbv
  rewrite [e2]
  cbv
  rewrite [e3]
  cbv
theorem eq_rj_many (e0 : os.length = k) (e1 : os2.length = k2) (e2 : Nat.ble 8 k2 = true) (e3 : os2.take 8 = zs) (e4 : zs.length = 8) (e5 : zs.take 8 = zs) (h3 : A.lt 8 (.ofNat k2) = true)
    (h1 : lpOf (envV A) 68 bd68 3 { n := 74, k := 0, fr := [(0, .sl 3 xs .imm), (1, .sl 3 ys .imm), (5, .sl 3 [] .full), (6, .s (.int .i64 0))], O := [] } = some (.code (.exit 0) { n := 74, k := 0, fr := [(0, .sl 3 xs .imm), (1, .sl 3 ys .imm), (5, .sl 3 os .full), (6, .s (.int .i64 (.ofNat n))), (13, .s (.bool false))], O := [] }))
    (h2 : lpOf (envV A) 68 bd68 8 { n := 74, k := 0, fr := [(1, .sl 3 ys .imm), (5, .sl 3 os .full), (7, .s (.int .i64 0))], O := [] } = some (.code (.exit 2) { n := 74, k := 0, fr := [(1, .sl 3 ys .imm), (5, .sl 3 os2 .full), (7, .s (.int .i64 (.ofNat m))), (31, .s (.bool false))], O := [] })) :
    evl (envV A) (.call 68 [.sl 3 xs .imm, .sl 3 ys .imm] []) = some (.ret (.sl 3 zs .full) []) := by
  rw [evl_fn (envV A) 68 _ _ (fn := Try.f68) (c := bd68) (lv := lvF68) rfl rfl rfl rfl rfl rfl]
  have hnle := hA.nleE; have hneq := hA.neqE
  have klt := hA.lt; have kle := hA.le; have keq := hA.eq; have knle := hA.nle; have kneq := hA.neq
  rw [lp_split (lpOf (envV A) 68 bd68) 3]
  generalize lpOf (envV A) 68 bd68 3 = L3 at e0 e1 e2 e3 e4 e5 h1 h2 h3 ⊢
  rw [lp_split (lpOf (envV A) 68 bd68) 8]
  generalize lpOf (envV A) 68 bd68 8 = L8 at e0 e1 e2 e3 e4 e5 h1 h2 h3 ⊢
  generalize lpOf (envV A) 68 bd68 = LP
  generalize evl (envV A) = E at e0 e1 e2 e3 e4 e5 h1 h2 h3 ⊢
  obtain ⟨aadd, asub, amul, arem, aquo, awr, ashr, aeq, alt, ale, aseq, aslt, acat, acut, asiz, aat, anle, aneq, afit⟩ := A
  simp only at hnle hneq
  subst hnle hneq
  simp only at klt kle keq knle kneq
  try simp only at h1 h2 h3
  conv at e0 => lhs; cbv
  conv at e1 => lhs; cbv
  conv at e2 => lhs; cbv
  conv at e3 => lhs; cbv
  conv at e4 => lhs; cbv
  conv at e5 => lhs; cbv
  cbv
  rewrite [h1]
  cbv
  rewrite [h2]
  cbv
  rewrite [e1]
  cbv
  rewrite [h3]
  cbv
  rewrite [e1]
  cbv
  rewrite [e2]
  cbv
  rewrite [e1]
  cbv
  rewrite [e2]
  cbv
  rewrite [e3]
  cbv
  rewrite [e4]
  cbv
  rewrite [e5]
  cbv
end
end Go.Va
