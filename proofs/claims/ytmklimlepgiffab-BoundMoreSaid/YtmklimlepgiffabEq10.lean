/- The functions that the statement reaches, by equations: no statement of its own. -/
import Derived.Test.YtmklimlepgiffabEq9
set_option linter.unusedVariables false
set_option linter.unusedSimpArgs false
set_option linter.unusedSectionVars false
namespace Go.Va
open Go.Proofs
set_option maxRecDepth 100000
set_option maxHeartbeats 4000000
def stWr (bs : List AV) (oT : Int) (aT bT : ByteArray) (dd : Int) (key : Bool) (i : Nat) : St := { n := 93, k := 0, fr := [(5, .ptr 0 0), (8, .s (.int .i64 dd)), (9, .sl 3 bs .full), (10, .s (.bool key)), (11, .s (.int .i64 (.ofNat i)))], O := [[.s (.int .i64 oT), .s (.string aT), .s (.string bT)]] }
def stWre (bs : List AV) (oT : Int) (aT bT : ByteArray) (dd : Int) (key : Bool) (i : Nat) : St := { n := 93, k := 0, fr := [(5, .ptr 0 0), (8, .s (.int .i64 dd)), (9, .sl 3 bs .full), (10, .s (.bool key)), (11, .s (.int .i64 (.ofNat i))), (44, .s (.bool false))], O := [[.s (.int .i64 oT), .s (.string aT), .s (.string bT)]] }
def stWr11 : St := { n := 93, k := 0, fr := [(4, .s (.int .i64 11))], O := [] }
section
variable (A : Ar) (hA : ArOk A) (bs xs : List AV) (n i t m : Nat) (dd ff e : Int) (o oT : Int) (a b aT bT : ByteArray) (key q p : Bool)
include hA
theorem lp_wr_11 (e0 : lget bs i = some (.agg [.s (.int .i64 o), .s (.string a), .s (.string b)])) (e1 : bs.length = n) (e2 : Nat.ble (Nat.succ i) n = true) (e3 : 0 + i = i)
    (h1 : A.lt (.ofNat i) (.ofNat n) = true) (h2 : A.eq o 7 = true) :
    lpOf (envV A) 62 bd62 15 (stWr bs oT aT bT dd key i) = some (.code .ret stWr11) := by
  unfold stWr stWr11
  rw [lp_step (envV A) 62 (c0 := bd62) (lv := lvF62) rfl rfl]
  have hnle := hA.nleE; have hneq := hA.neqE
  have klt := hA.lt; have kle := hA.le; have keq := hA.eq; have knle := hA.nle; have kneq := hA.neq
  generalize lpOf (envV A) 62 bd62 = LP
  generalize evl (envV A) = E at e0 e1 e2 e3 h1 h2 ⊢
  obtain ⟨aadd, asub, amul, arem, aquo, awr, ashr, aeq, alt, ale, aseq, aslt, acat, acut, asiz, aat, anle, aneq, afit⟩ := A
  simp only at hnle hneq
  subst hnle hneq
  simp only at klt kle keq knle kneq
  try simp only at h1 h2
  conv at e0 => lhs; cbv
  conv at e1 => lhs; cbv
  conv at e2 => lhs; cbv
  conv at e3 => lhs; cbv
  cbv
  rewrite [e1]
  cbv
  rewrite [h1]
  cbv
  rewrite [e1]
  cbv
  rewrite [e2]
  cbv
  rewrite [e3]
  cbv
  rewrite [e0]
  cbv
  rewrite [h2]
  cbv
theorem lp_wr_e {r : Option Res} (e0 : lget bs i = some (.agg [.s (.int .i64 o), .s (.string a), .s (.string b)])) (e1 : bs.length = n) (e2 : Nat.ble (Nat.succ i) n = true) (e3 : 0 + i = i)
    (h1 : A.lt (.ofNat i) (.ofNat n) = true) (h2 : A.eq o 7 = false) (h3 : (bif A.eq o 1 then true else A.eq o 3) = true) (h4 : A.seq b bT = q) (h6 : A.add .i64 (.ofNat i) 1 = .ofNat (Nat.succ i))
    (hr : lpOf (envV A) 62 bd62 15 (stWr bs oT aT bT dd (bif key then true else q) (Nat.succ i)) = r) :
    lpOf (envV A) 62 bd62 15 (stWr bs oT aT bT dd key i) = r := by
  unfold stWr at hr ⊢
  cases key <;> simp only [cond_true, cond_false] at hr <;> cases q1 : A.eq o 1 <;> simp only [q1, cond_true, cond_false] at h3
  ·
    rw [lp_step (envV A) 62 (c0 := bd62) (lv := lvF62) rfl rfl]
    have hnle := hA.nleE; have hneq := hA.neqE
    have klt := hA.lt; have kle := hA.le; have keq := hA.eq; have knle := hA.nle; have kneq := hA.neq
    rw [lp_split (lpOf (envV A) 62 bd62) 15]
    generalize lpOf (envV A) 62 bd62 15 = L15 at e0 e1 e2 e3 h1 h2 h3 h4 h6 q1 hr ⊢
    generalize lpOf (envV A) 62 bd62 = LP
    generalize evl (envV A) = E at e0 e1 e2 e3 h1 h2 h3 h4 h6 q1 hr ⊢
    obtain ⟨aadd, asub, amul, arem, aquo, awr, ashr, aeq, alt, ale, aseq, aslt, acat, acut, asiz, aat, anle, aneq, afit⟩ := A
    simp only at hnle hneq
    subst hnle hneq
    simp only at klt kle keq knle kneq
    try simp only at h1 h2 h3 h4 h6 q1 hr
    conv at e0 => lhs; cbv
    conv at e1 => lhs; cbv
    conv at e2 => lhs; cbv
    conv at e3 => lhs; cbv
    cbv
    rewrite [e1]
    cbv
    rewrite [h1]
    cbv
    rewrite [e1]
    cbv
    rewrite [e2]
    cbv
    rewrite [e3]
    cbv
    rewrite [e0]
    cbv
    rewrite [h2]
    cbv
    rewrite [q1]
    cbv
    rewrite [h3]
    cbv
    rewrite [h4]
    cbv
    rewrite [h6]
    cbv
    rewrite [hr]
    cbv
  ·
    rw [lp_step (envV A) 62 (c0 := bd62) (lv := lvF62) rfl rfl]
    have hnle := hA.nleE; have hneq := hA.neqE
    have klt := hA.lt; have kle := hA.le; have keq := hA.eq; have knle := hA.nle; have kneq := hA.neq
    rw [lp_split (lpOf (envV A) 62 bd62) 15]
    generalize lpOf (envV A) 62 bd62 15 = L15 at e0 e1 e2 e3 h1 h2 h4 h6 q1 hr ⊢
    generalize lpOf (envV A) 62 bd62 = LP
    generalize evl (envV A) = E at e0 e1 e2 e3 h1 h2 h4 h6 q1 hr ⊢
    obtain ⟨aadd, asub, amul, arem, aquo, awr, ashr, aeq, alt, ale, aseq, aslt, acat, acut, asiz, aat, anle, aneq, afit⟩ := A
    simp only at hnle hneq
    subst hnle hneq
    simp only at klt kle keq knle kneq
    try simp only at h1 h2 h4 h6 q1 hr
    conv at e0 => lhs; cbv
    conv at e1 => lhs; cbv
    conv at e2 => lhs; cbv
    conv at e3 => lhs; cbv
    cbv
    rewrite [e1]
    cbv
    rewrite [h1]
    cbv
    rewrite [e1]
    cbv
    rewrite [e2]
    cbv
    rewrite [e3]
    cbv
    rewrite [e0]
    cbv
    rewrite [h2]
    cbv
    rewrite [q1]
    cbv
    rewrite [h4]
    cbv
    rewrite [h6]
    cbv
    rewrite [hr]
    cbv
  ·
    rw [lp_step (envV A) 62 (c0 := bd62) (lv := lvF62) rfl rfl]
    have hnle := hA.nleE; have hneq := hA.neqE
    have klt := hA.lt; have kle := hA.le; have keq := hA.eq; have knle := hA.nle; have kneq := hA.neq
    rw [lp_split (lpOf (envV A) 62 bd62) 15]
    generalize lpOf (envV A) 62 bd62 15 = L15 at e0 e1 e2 e3 h1 h2 h3 h4 h6 q1 hr ⊢
    generalize lpOf (envV A) 62 bd62 = LP
    generalize evl (envV A) = E at e0 e1 e2 e3 h1 h2 h3 h4 h6 q1 hr ⊢
    obtain ⟨aadd, asub, amul, arem, aquo, awr, ashr, aeq, alt, ale, aseq, aslt, acat, acut, asiz, aat, anle, aneq, afit⟩ := A
    simp only at hnle hneq
    subst hnle hneq
    simp only at klt kle keq knle kneq
    try simp only at h1 h2 h3 h4 h6 q1 hr
    conv at e0 => lhs; cbv
    conv at e1 => lhs; cbv
    conv at e2 => lhs; cbv
    conv at e3 => lhs; cbv
    cbv
    rewrite [e1]
    cbv
    rewrite [h1]
    cbv
    rewrite [e1]
    cbv
    rewrite [e2]
    cbv
    rewrite [e3]
    cbv
    rewrite [e0]
    cbv
    rewrite [h2]
    cbv
    rewrite [q1]
    cbv
    rewrite [h3]
    cbv
    rewrite [h6]
    cbv
    rewrite [hr]
    cbv
  ·
    rw [lp_step (envV A) 62 (c0 := bd62) (lv := lvF62) rfl rfl]
    have hnle := hA.nleE; have hneq := hA.neqE
    have klt := hA.lt; have kle := hA.le; have keq := hA.eq; have knle := hA.nle; have kneq := hA.neq
    rw [lp_split (lpOf (envV A) 62 bd62) 15]
    generalize lpOf (envV A) 62 bd62 15 = L15 at e0 e1 e2 e3 h1 h2 h4 h6 q1 hr ⊢
    generalize lpOf (envV A) 62 bd62 = LP
    generalize evl (envV A) = E at e0 e1 e2 e3 h1 h2 h4 h6 q1 hr ⊢
    obtain ⟨aadd, asub, amul, arem, aquo, awr, ashr, aeq, alt, ale, aseq, aslt, acat, acut, asiz, aat, anle, aneq, afit⟩ := A
    simp only at hnle hneq
    subst hnle hneq
    simp only at klt kle keq knle kneq
    try simp only at h1 h2 h4 h6 q1 hr
    conv at e0 => lhs; cbv
    conv at e1 => lhs; cbv
    conv at e2 => lhs; cbv
    conv at e3 => lhs; cbv
    cbv
    rewrite [e1]
    cbv
    rewrite [h1]
    cbv
    rewrite [e1]
    cbv
    rewrite [e2]
    cbv
    rewrite [e3]
    cbv
    rewrite [e0]
    cbv
    rewrite [h2]
    cbv
    rewrite [q1]
    cbv
    rewrite [h6]
    cbv
    rewrite [hr]
    cbv
theorem lp_wr_o {r : Option Res} (e0 : lget bs i = some (.agg [.s (.int .i64 o), .s (.string a), .s (.string b)])) (e1 : bs.length = n) (e2 : Nat.ble (Nat.succ i) n = true) (e3 : 0 + i = i)
    (h1 : A.lt (.ofNat i) (.ofNat n) = true) (h2 : A.eq o 7 = false) (h3 : A.eq o 1 = false) (h4 : A.eq o 3 = false) (h6 : A.add .i64 (.ofNat i) 1 = .ofNat (Nat.succ i))
    (hr : lpOf (envV A) 62 bd62 15 (stWr bs oT aT bT dd key (Nat.succ i)) = r) :
    lpOf (envV A) 62 bd62 15 (stWr bs oT aT bT dd key i) = r := by
  unfold stWr at hr ⊢
  rw [lp_step (envV A) 62 (c0 := bd62) (lv := lvF62) rfl rfl]
  have hnle := hA.nleE; have hneq := hA.neqE
  have klt := hA.lt; have kle := hA.le; have keq := hA.eq; have knle := hA.nle; have kneq := hA.neq
  rw [lp_split (lpOf (envV A) 62 bd62) 15]
  generalize lpOf (envV A) 62 bd62 15 = L15 at e0 e1 e2 e3 h1 h2 h3 h4 h6 hr ⊢
  generalize lpOf (envV A) 62 bd62 = LP
  generalize evl (envV A) = E at e0 e1 e2 e3 h1 h2 h3 h4 h6 hr ⊢
  obtain ⟨aadd, asub, amul, arem, aquo, awr, ashr, aeq, alt, ale, aseq, aslt, acat, acut, asiz, aat, anle, aneq, afit⟩ := A
  simp only at hnle hneq
  subst hnle hneq
  simp only at klt kle keq knle kneq
  try simp only at h1 h2 h3 h4 h6 hr
  conv at e0 => lhs; cbv
  conv at e1 => lhs; cbv
  conv at e2 => lhs; cbv
  conv at e3 => lhs; cbv
  cbv
  rewrite [e1]
  cbv
  rewrite [h1]
  cbv
  rewrite [e1]
  cbv
  rewrite [e2]
  cbv
  rewrite [e3]
  cbv
  rewrite [e0]
  cbv
  rewrite [h2]
  cbv
  rewrite [h3]
  cbv
  rewrite [h4]
  cbv
  rewrite [h6]
  cbv
  rewrite [hr]
  cbv
theorem lp_wr_end (e1 : bs.length = n) (h1 : A.lt (.ofNat i) (.ofNat n) = false) :
    lpOf (envV A) 62 bd62 15 (stWr bs oT aT bT dd key i) = some (.code (.exit 0) (stWre bs oT aT bT dd key i)) := by
  unfold stWr stWre
  rw [lp_step (envV A) 62 (c0 := bd62) (lv := lvF62) rfl rfl]
  have hnle := hA.nleE; have hneq := hA.neqE
  generalize lpOf (envV A) 62 bd62 = LP
  generalize evl (envV A) = E at e1 h1 ⊢
  obtain ⟨aadd, asub, amul, arem, aquo, awr, ashr, aeq, alt, ale, aseq, aslt, acat, acut, asiz, aat, anle, aneq, afit⟩ := A
  simp only at hnle hneq
  subst hnle hneq
  try simp only at h1
  conv at e1 => lhs; cbv
  cbv
  rewrite [e1]
  cbv
  rewrite [h1]
  cbv
theorem eq_wrong7 (e0 : lget xs t = some (.agg [.s (.int .i64 oT), .s (.string aT), .s (.string bT)])) (e1 : xs.length = n) (e2 : Nat.ble (Nat.succ t) n = true)
    (h1 : evl (envV A) (.call 95 [.agg [.s (.int .i64 oT), .s (.string aT), .s (.string bT)]] []) = some (.ret (.s (.bool false)) [])) :
    evl (envV A) (.call 62 [.sl 3 xs .imm, .s (.int .i64 (.ofNat t))] []) = some (.ret (.s (.int .i64 7)) []) := by
  rw [evl_fn (envV A) 62 _ _ (fn := Try.f62) (c := bd62) (lv := lvF62) rfl rfl rfl rfl rfl rfl]
  have hnle := hA.nleE; have hneq := hA.neqE
  have klt := hA.lt; have kle := hA.le; have keq := hA.eq; have knle := hA.nle; have kneq := hA.neq
  generalize lpOf (envV A) 62 bd62 = LP
  generalize evl (envV A) = E at e0 e1 e2 h1 ⊢
  obtain ⟨aadd, asub, amul, arem, aquo, awr, ashr, aeq, alt, ale, aseq, aslt, acat, acut, asiz, aat, anle, aneq, afit⟩ := A
  simp only at hnle hneq
  subst hnle hneq
  simp only at klt kle keq knle kneq
  try simp only at h1
  conv at e0 => lhs; cbv
  conv at e1 => lhs; cbv
  conv at e2 => lhs; cbv
  cbv
  rewrite [e0]
  cbv
  rewrite [h1]
  cbv
theorem eq_wrong_at (e0 : lget xs t = some (.agg [.s (.int .i64 oT), .s (.string aT), .s (.string bT)])) (e1 : xs.length = n) (e2 : Nat.ble (Nat.succ t) n = true)
    (h1 : evl (envV A) (.call 95 [.agg [.s (.int .i64 oT), .s (.string aT), .s (.string bT)]] []) = some (.ret (.s (.bool true)) []))
    (h2 : evl (envV A) (.call 80 [.s (.int .i64 oT)] []) = some (.ret (.s (.bool true)) []))
    (h3 : evl (envV A) (.call 101 [.sl 3 xs .imm, .s (.int .i64 (.ofNat t))] []) = some (.ret (.s (.int .i64 e)) [])) :
    evl (envV A) (.call 62 [.sl 3 xs .imm, .s (.int .i64 (.ofNat t))] []) = some (.ret (.s (.int .i64 e)) []) := by
  rw [evl_fn (envV A) 62 _ _ (fn := Try.f62) (c := bd62) (lv := lvF62) rfl rfl rfl rfl rfl rfl]
  have hnle := hA.nleE; have hneq := hA.neqE
  have klt := hA.lt; have kle := hA.le; have keq := hA.eq; have knle := hA.nle; have kneq := hA.neq
  generalize lpOf (envV A) 62 bd62 = LP
  generalize evl (envV A) = E at e0 e1 e2 h1 h2 h3 ⊢
  obtain ⟨aadd, asub, amul, arem, aquo, awr, ashr, aeq, alt, ale, aseq, aslt, acat, acut, asiz, aat, anle, aneq, afit⟩ := A
  simp only at hnle hneq
  subst hnle hneq
  simp only at klt kle keq knle kneq
  try simp only at h1 h2 h3
  conv at e0 => lhs; cbv
  conv at e1 => lhs; cbv
  conv at e2 => lhs; cbv
  cbv
  rewrite [e0]
  cbv
  rewrite [h1]
  cbv
  rewrite [h2]
  cbv
  rewrite [h3]
  cbv
theorem eq_wrong_c (e0 : lget xs t = some (.agg [.s (.int .i64 oT), .s (.string aT), .s (.string bT)])) (e1 : xs.length = n) (e2 : Nat.ble (Nat.succ t) n = true)
    (h1 : evl (envV A) (.call 95 [.agg [.s (.int .i64 oT), .s (.string aT), .s (.string bT)]] []) = some (.ret (.s (.bool true)) []))
    (h2 : evl (envV A) (.call 80 [.s (.int .i64 oT)] []) = some (.ret (.s (.bool false)) []))
    (h3 : evl (envV A) (.call 63 [.sl 3 xs .imm, .s (.int .i64 (.ofNat t))] []) = some (.ret (.tup [.s (.int .i64 ff), .s (.int .i64 dd)]) [])) (h4 : A.eq oT 2 = true) :
    evl (envV A) (.call 62 [.sl 3 xs .imm, .s (.int .i64 (.ofNat t))] []) = some (.ret (.s (.int .i64 (bif A.eq dd 0 then 8 else 0))) []) := by
  rw [evl_fn (envV A) 62 _ _ (fn := Try.f62) (c := bd62) (lv := lvF62) rfl rfl rfl rfl rfl rfl]
  have hnle := hA.nleE; have hneq := hA.neqE
  generalize lpOf (envV A) 62 bd62 = LP
  generalize evl (envV A) = E at e0 e1 e2 h1 h2 h3 h4 ⊢
  obtain ⟨aadd, asub, amul, arem, aquo, awr, ashr, aeq, alt, ale, aseq, aslt, acat, acut, asiz, aat, anle, aneq, afit⟩ := A
  simp only at hnle hneq
  subst hnle hneq
  try simp only at h1 h2 h3 h4
  conv at e0 => lhs; cbv
  conv at e1 => lhs; cbv
  conv at e2 => lhs; cbv
  cbv
  rewrite [e0]
  cbv
  rewrite [h1]
  cbv
  rewrite [h2]
  cbv
  rewrite [h3]
  cbv
  rewrite [h4]
  cbv
  cases c1 : aeq dd 0
  · cbv
  · cbv
theorem eq_wrong_11 (e0 : lget xs t = some (.agg [.s (.int .i64 oT), .s (.string aT), .s (.string bT)])) (e1 : xs.length = n) (e2 : Nat.ble (Nat.succ t) n = true)
    (h1 : evl (envV A) (.call 95 [.agg [.s (.int .i64 oT), .s (.string aT), .s (.string bT)]] []) = some (.ret (.s (.bool true)) []))
    (h2 : evl (envV A) (.call 80 [.s (.int .i64 oT)] []) = some (.ret (.s (.bool false)) []))
    (h3 : evl (envV A) (.call 63 [.sl 3 xs .imm, .s (.int .i64 (.ofNat t))] []) = some (.ret (.tup [.s (.int .i64 ff), .s (.int .i64 dd)]) [])) (h4 : A.eq oT 2 = false)
    (h5 : evl (envV A) (.call 102 [.sl 3 xs .imm, .s (.int .i64 (.ofNat t))] []) = some (.ret (.sl 3 bs .full) []))
    (h6 : lpOf (envV A) 62 bd62 15 (stWr bs oT aT bT dd false 0) = some (.code .ret stWr11)) :
    evl (envV A) (.call 62 [.sl 3 xs .imm, .s (.int .i64 (.ofNat t))] []) = some (.ret (.s (.int .i64 11)) []) := by
  unfold stWr stWr11 at h6
  simp only [show Int.ofNat 0 = 0 from rfl] at h6
  rw [evl_fn (envV A) 62 _ _ (fn := Try.f62) (c := bd62) (lv := lvF62) rfl rfl rfl rfl rfl rfl]
  have hnle := hA.nleE; have hneq := hA.neqE
  have klt := hA.lt; have kle := hA.le; have keq := hA.eq; have knle := hA.nle; have kneq := hA.neq
  rw [lp_split (lpOf (envV A) 62 bd62) 15]
  generalize lpOf (envV A) 62 bd62 15 = L15 at e0 e1 e2 h1 h2 h3 h4 h5 h6 ⊢
  generalize lpOf (envV A) 62 bd62 = LP
  generalize evl (envV A) = E at e0 e1 e2 h1 h2 h3 h4 h5 h6 ⊢
  obtain ⟨aadd, asub, amul, arem, aquo, awr, ashr, aeq, alt, ale, aseq, aslt, acat, acut, asiz, aat, anle, aneq, afit⟩ := A
  simp only at hnle hneq
  subst hnle hneq
  simp only at klt kle keq knle kneq
  try simp only at h1 h2 h3 h4 h5 h6
  conv at e0 => lhs; cbv
  conv at e1 => lhs; cbv
  conv at e2 => lhs; cbv
  cbv
  rewrite [e0]
  cbv
  rewrite [h1]
  cbv
  rewrite [h2]
  cbv
  rewrite [h3]
  cbv
  rewrite [h4]
  cbv
  rewrite [h5]
  cbv
  rewrite [h6]
  cbv
theorem eq_wrong (e0 : lget xs t = some (.agg [.s (.int .i64 oT), .s (.string aT), .s (.string bT)])) (e1 : xs.length = n) (e2 : Nat.ble (Nat.succ t) n = true)
    (h1 : evl (envV A) (.call 95 [.agg [.s (.int .i64 oT), .s (.string aT), .s (.string bT)]] []) = some (.ret (.s (.bool true)) []))
    (h2 : evl (envV A) (.call 80 [.s (.int .i64 oT)] []) = some (.ret (.s (.bool false)) []))
    (h3 : evl (envV A) (.call 63 [.sl 3 xs .imm, .s (.int .i64 (.ofNat t))] []) = some (.ret (.tup [.s (.int .i64 ff), .s (.int .i64 dd)]) [])) (h4 : A.eq oT 2 = false)
    (h5 : evl (envV A) (.call 102 [.sl 3 xs .imm, .s (.int .i64 (.ofNat t))] []) = some (.ret (.sl 3 bs .full) []))
    (h6 : lpOf (envV A) 62 bd62 15 (stWr bs oT aT bT dd false 0) = some (.code (.exit 0) (stWre bs oT aT bT dd key i))) :
    evl (envV A) (.call 62 [.sl 3 xs .imm, .s (.int .i64 (.ofNat t))] []) = some (.ret (.s (.int .i64 (bif (bif (bif A.eq oT 1 then true else A.eq oT 3) then (bif A.seq bT ⟨#[]⟩ then false else key) else false) then 10 else bif (bif A.eq oT 1 then A.le 8 dd else false) then 12 else 0))) []) := by
  unfold stWr stWre at h6
  simp only [show Int.ofNat 0 = 0 from rfl] at h6
  rw [evl_fn (envV A) 62 _ _ (fn := Try.f62) (c := bd62) (lv := lvF62) rfl rfl rfl rfl rfl rfl]
  have hnle := hA.nleE; have hneq := hA.neqE
  rw [lp_split (lpOf (envV A) 62 bd62) 15]
  generalize lpOf (envV A) 62 bd62 15 = L15 at e0 e1 e2 h1 h2 h3 h4 h5 h6 ⊢
  generalize lpOf (envV A) 62 bd62 = LP
  generalize evl (envV A) = E at e0 e1 e2 h1 h2 h3 h4 h5 h6 ⊢
  obtain ⟨aadd, asub, amul, arem, aquo, awr, ashr, aeq, alt, ale, aseq, aslt, acat, acut, asiz, aat, anle, aneq, afit⟩ := A
  simp only at hnle hneq
  subst hnle hneq
  try simp only at h1 h2 h3 h4 h5 h6
  conv at e0 => lhs; cbv
  conv at e1 => lhs; cbv
  conv at e2 => lhs; cbv
  cbv
  rewrite [e0]
  cbv
  rewrite [h1]
  cbv
  rewrite [h2]
  cbv
  rewrite [h3]
  cbv
  rewrite [h4]
  cbv
  rewrite [h5]
  cbv
  rewrite [h6]
  cbv
  cases c1 : aeq oT 1
  · cbv
    cases c2 : aeq oT 3
    · cbv
      rewrite [c1]
      cbv
    · cbv
      cases c3 : aseq bT { data := { toList := [] } }
      · cbv
        cases key
        · cbv
          rewrite [c1]
          cbv
        · cbv
      · cbv
        rewrite [c1]
        cbv
  · cbv
    cases c5 : aseq bT { data := { toList := [] } }
    · cbv
      cases key
      · cbv
        rewrite [c1]
        cbv
        cases c7 : ale 8 dd
        · cbv
        · cbv
      · cbv
    · cbv
      rewrite [c1]
      cbv
      cases c8 : ale 8 dd
      · cbv
      · cbv
end
def stCk (xs : List AV) (i : Nat) : St := { n := 31, k := 0, fr := [(0, .sl 3 xs .imm), (3, .s (.int .i64 (.ofNat i)))], O := [] }
def stCke (xs : List AV) (i : Nat) : St := { n := 31, k := 0, fr := [(0, .sl 3 xs .imm), (3, .s (.int .i64 (.ofNat i))), (13, .s (.bool false))], O := [] }
def stCkr (e : Int) : St := { n := 31, k := 0, fr := [(2, .s (.int .i64 e))], O := [] }
section
variable (A : Ar) (hA : ArOk A) (xs : List AV) (n i : Nat) (e ff dd : Int)
include hA
theorem lp_ck_on {r : Option Res} (e1 : xs.length = n) (h1 : A.lt (.ofNat i) (.ofNat n) = true) (h2 : evl (envV A) (.call 62 [.sl 3 xs .imm, .s (.int .i64 (.ofNat i))] []) = some (.ret (.s (.int .i64 0)) []))
    (h3 : A.eq 0 0 = true) (h6 : A.add .i64 (.ofNat i) 1 = .ofNat (Nat.succ i))
    (hr : lpOf (envV A) 24 bd24 4 (stCk xs (Nat.succ i)) = r) : lpOf (envV A) 24 bd24 4 (stCk xs i) = r := by
  unfold stCk at hr ⊢
  rw [lp_step (envV A) 24 (c0 := bd24) (lv := lvF24) rfl rfl]
  have hnle := hA.nleE; have hneq := hA.neqE
  rw [lp_split (lpOf (envV A) 24 bd24) 4]
  generalize lpOf (envV A) 24 bd24 4 = L4 at e1 h1 h2 h3 h6 hr ⊢
  generalize lpOf (envV A) 24 bd24 = LP
  generalize evl (envV A) = E at e1 h1 h2 h3 h6 hr ⊢
  obtain ⟨aadd, asub, amul, arem, aquo, awr, ashr, aeq, alt, ale, aseq, aslt, acat, acut, asiz, aat, anle, aneq, afit⟩ := A
  simp only at hnle hneq
  subst hnle hneq
  try simp only at h1 h2 h3 h6 hr
  conv at e1 => lhs; cbv
  cbv
  rewrite [e1]
  cbv
  rewrite [h1]
  cbv
  rewrite [h2]
  cbv
  rewrite [h3]
  cbv
  rewrite [h6]
  cbv
  rewrite [hr]
  cbv
theorem lp_ck_e (e1 : xs.length = n) (h1 : A.lt (.ofNat i) (.ofNat n) = true) (h2 : evl (envV A) (.call 62 [.sl 3 xs .imm, .s (.int .i64 (.ofNat i))] []) = some (.ret (.s (.int .i64 e)) []))
    (h3 : A.eq e 0 = false) : lpOf (envV A) 24 bd24 4 (stCk xs i) = some (.code .ret (stCkr e)) := by
  unfold stCk stCkr
  rw [lp_step (envV A) 24 (c0 := bd24) (lv := lvF24) rfl rfl]
  have hnle := hA.nleE; have hneq := hA.neqE
  generalize lpOf (envV A) 24 bd24 = LP
  generalize evl (envV A) = E at e1 h1 h2 h3 ⊢
  obtain ⟨aadd, asub, amul, arem, aquo, awr, ashr, aeq, alt, ale, aseq, aslt, acat, acut, asiz, aat, anle, aneq, afit⟩ := A
  simp only at hnle hneq
  subst hnle hneq
  try simp only at h1 h2 h3
  conv at e1 => lhs; cbv
  cbv
  rewrite [e1]
  cbv
  rewrite [h1]
  cbv
  rewrite [h2]
  cbv
  rewrite [h3]
  cbv
theorem lp_ck_end (e1 : xs.length = n) (h1 : A.lt (.ofNat i) (.ofNat n) = false) : lpOf (envV A) 24 bd24 4 (stCk xs i) = some (.code (.exit 0) (stCke xs i)) := by
  unfold stCk stCke
  rw [lp_step (envV A) 24 (c0 := bd24) (lv := lvF24) rfl rfl]
  have hnle := hA.nleE; have hneq := hA.neqE
  generalize lpOf (envV A) 24 bd24 = LP
  generalize evl (envV A) = E at e1 h1 ⊢
  obtain ⟨aadd, asub, amul, arem, aquo, awr, ashr, aeq, alt, ale, aseq, aslt, acat, acut, asiz, aat, anle, aneq, afit⟩ := A
  simp only at hnle hneq
  subst hnle hneq
  try simp only at h1
  conv at e1 => lhs; cbv
  cbv
  rewrite [e1]
  cbv
  rewrite [h1]
  cbv
theorem eq_Check13 (e1 : xs.length = n) (h1 : A.lt 120 (.ofNat n) = true) : evl (envV A) (.call 24 [.sl 3 xs .imm] []) = some (.ret (.s (.int .i64 13)) []) := by
  rw [evl_fn (envV A) 24 _ _ (fn := Try.f24) (c := bd24) (lv := lvF24) rfl rfl rfl rfl rfl rfl]
  have hnle := hA.nleE; have hneq := hA.neqE
  generalize lpOf (envV A) 24 bd24 = LP
  generalize evl (envV A) = E at e1 h1 ⊢
  obtain ⟨aadd, asub, amul, arem, aquo, awr, ashr, aeq, alt, ale, aseq, aslt, acat, acut, asiz, aat, anle, aneq, afit⟩ := A
  simp only at hnle hneq
  subst hnle hneq
  try simp only at h1
  conv at e1 => lhs; cbv
  cbv
  rewrite [e1]
  cbv
  rewrite [h1]
  cbv
theorem eq_Check_e (e1 : xs.length = n) (h1 : A.lt 120 (.ofNat n) = false) (h2 : lpOf (envV A) 24 bd24 4 (stCk xs 0) = some (.code .ret (stCkr e))) : evl (envV A) (.call 24 [.sl 3 xs .imm] []) = some (.ret (.s (.int .i64 e)) []) := by
  unfold stCk stCkr at h2
  simp only [show Int.ofNat 0 = 0 from rfl] at h2
  rw [evl_fn (envV A) 24 _ _ (fn := Try.f24) (c := bd24) (lv := lvF24) rfl rfl rfl rfl rfl rfl]
  have hnle := hA.nleE; have hneq := hA.neqE
  rw [lp_split (lpOf (envV A) 24 bd24) 4]
  generalize lpOf (envV A) 24 bd24 4 = L4 at e1 h1 h2 ⊢
  generalize lpOf (envV A) 24 bd24 = LP
  generalize evl (envV A) = E at e1 h1 h2 ⊢
  obtain ⟨aadd, asub, amul, arem, aquo, awr, ashr, aeq, alt, ale, aseq, aslt, acat, acut, asiz, aat, anle, aneq, afit⟩ := A
  simp only at hnle hneq
  subst hnle hneq
  try simp only at h1 h2
  conv at e1 => lhs; cbv
  cbv
  rewrite [e1]
  cbv
  rewrite [h1]
  cbv
  rewrite [h2]
  cbv
theorem eq_Check_end (e1 : xs.length = n) (h1 : A.lt 120 (.ofNat n) = false) (h2 : lpOf (envV A) 24 bd24 4 (stCk xs 0) = some (.code (.exit 0) (stCke xs n)))
    (h3 : evl (envV A) (.call 63 [.sl 3 xs .imm, .s (.int .i64 (.ofNat n))] []) = some (.ret (.tup [.s (.int .i64 ff), .s (.int .i64 dd)]) [])) : evl (envV A) (.call 24 [.sl 3 xs .imm] []) = some (.ret (.s (.int .i64 (bif A.lt 0 dd then 8 else 0))) []) := by
  unfold stCk stCke at h2
  simp only [show Int.ofNat 0 = 0 from rfl] at h2
  rw [evl_fn (envV A) 24 _ _ (fn := Try.f24) (c := bd24) (lv := lvF24) rfl rfl rfl rfl rfl rfl]
  have hnle := hA.nleE; have hneq := hA.neqE
  rw [lp_split (lpOf (envV A) 24 bd24) 4]
  generalize lpOf (envV A) 24 bd24 4 = L4 at e1 h1 h2 h3 ⊢
  generalize lpOf (envV A) 24 bd24 = LP
  generalize evl (envV A) = E at e1 h1 h2 h3 ⊢
  obtain ⟨aadd, asub, amul, arem, aquo, awr, ashr, aeq, alt, ale, aseq, aslt, acat, acut, asiz, aat, anle, aneq, afit⟩ := A
  simp only at hnle hneq
  subst hnle hneq
  try simp only at h1 h2 h3
  conv at e1 => lhs; cbv
  cbv
  rewrite [e1]
  cbv
  rewrite [h1]
  cbv
  rewrite [h2]
  cbv
  rewrite [e1]
  cbv
  rewrite [h3]
  cbv
  cases c1 : alt 0 dd
  · cbv
  · cbv
theorem eq_ValidTells0 (h1 : evl (envV A) (.call 22 [] []) = some (.ret (.s (.bool true)) [])) (h2 : evl (envV A) (.call 20 [.sl 3 xs .imm] []) = some (.ret (.s (.int .i64 0)) [])) (h3 : A.eq 0 0 = true) :
    evl (envV A) (.call 5 [.sl 3 xs .imm] []) = some (.ret (.s (.bool true)) []) := by
  rw [evl_fn (envV A) 5 _ _ (fn := Try.f5) (c := bd5) (lv := lvF5) rfl rfl rfl rfl rfl rfl]
  have hnle := hA.nleE; have hneq := hA.neqE
  generalize lpOf (envV A) 5 bd5 = LP
  generalize evl (envV A) = E at h1 h2 h3 ⊢
  obtain ⟨aadd, asub, amul, arem, aquo, awr, ashr, aeq, alt, ale, aseq, aslt, acat, acut, asiz, aat, anle, aneq, afit⟩ := A
  simp only at hnle hneq
  subst hnle hneq
  try simp only at h1 h2 h3
  cbv
  rewrite [h1]
  cbv
  rewrite [h2]
  cbv
  rewrite [h3]
  cbv
theorem eq_ValidTells (v : AV) (hv : v = .s .nilIface ∨ ∃ z, v = .s (.iface 39 (.int .i64 z))) (h1 : evl (envV A) (.call 22 [] []) = some (.ret (.s (.bool true)) [])) (h2 : evl (envV A) (.call 20 [.sl 3 xs .imm] []) = some (.ret (.s (.int .i64 1)) [])) (h3 : A.eq 1 0 = false)
    (h4 : evl (envV A) (.call 23 [.sl 3 xs .imm] []) = some (.ret v [])) (h5 : evl (envV A) (.call 18 [v] []) = some (.ret (.s (.int .i64 e)) [])) (h6 : evl (envV A) (.call 24 [.sl 3 xs .imm] []) = some (.ret (.s (.int .i64 e)) [])) (h7 : A.eq e e = true) :
    evl (envV A) (.call 5 [.sl 3 xs .imm] []) = some (.ret (.s (.bool true)) []) := by
  rcases hv with rfl | ⟨z, rfl⟩
  ·
    rw [evl_fn (envV A) 5 _ _ (fn := Try.f5) (c := bd5) (lv := lvF5) rfl rfl rfl rfl rfl rfl]
    have hnle := hA.nleE; have hneq := hA.neqE
    generalize lpOf (envV A) 5 bd5 = LP
    generalize evl (envV A) = E at h1 h2 h3 h4 h5 h6 h7 ⊢
    obtain ⟨aadd, asub, amul, arem, aquo, awr, ashr, aeq, alt, ale, aseq, aslt, acat, acut, asiz, aat, anle, aneq, afit⟩ := A
    simp only at hnle hneq
    subst hnle hneq
    try simp only at h1 h2 h3 h4 h5 h6 h7
    cbv
    rewrite [h1]
    cbv
    rewrite [h2]
    cbv
    rewrite [h3]
    cbv
    rewrite [h4]
    cbv
    rewrite [h5]
    cbv
    rewrite [h6]
    cbv
    rewrite [h7]
    cbv
  ·
    rw [evl_fn (envV A) 5 _ _ (fn := Try.f5) (c := bd5) (lv := lvF5) rfl rfl rfl rfl rfl rfl]
    have hnle := hA.nleE; have hneq := hA.neqE
    generalize lpOf (envV A) 5 bd5 = LP
    generalize evl (envV A) = E at h1 h2 h3 h4 h5 h6 h7 ⊢
    obtain ⟨aadd, asub, amul, arem, aquo, awr, ashr, aeq, alt, ale, aseq, aslt, acat, acut, asiz, aat, anle, aneq, afit⟩ := A
    simp only at hnle hneq
    subst hnle hneq
    try simp only at h1 h2 h3 h4 h5 h6 h7
    cbv
    rewrite [h1]
    cbv
    rewrite [h2]
    cbv
    rewrite [h3]
    cbv
    rewrite [h4]
    cbv
    rewrite [h5]
    cbv
    rewrite [h6]
    cbv
    rewrite [h7]
    cbv
end
theorem s_law00_Code (e : Nat) (he : e ≤ 13) : evl (envV realAr) (.call 18 [codeN 39 e] []) = some (.ret (.s (.int .i64 e)) []) := by
  match e, he with
  | 0, _ => exact evl_of (n := 60) (by kernel_rfl)
  | 1, _ => exact evl_of (n := 60) (by kernel_rfl)
  | 2, _ => exact evl_of (n := 60) (by kernel_rfl)
  | 3, _ => exact evl_of (n := 60) (by kernel_rfl)
  | 4, _ => exact evl_of (n := 60) (by kernel_rfl)
  | 5, _ => exact evl_of (n := 60) (by kernel_rfl)
  | 6, _ => exact evl_of (n := 60) (by kernel_rfl)
  | 7, _ => exact evl_of (n := 60) (by kernel_rfl)
  | 8, _ => exact evl_of (n := 60) (by kernel_rfl)
  | 9, _ => exact evl_of (n := 60) (by kernel_rfl)
  | 10, _ => exact evl_of (n := 60) (by kernel_rfl)
  | 11, _ => exact evl_of (n := 60) (by kernel_rfl)
  | 12, _ => exact evl_of (n := 60) (by kernel_rfl)
  | 13, _ => exact evl_of (n := 60) (by kernel_rfl)
theorem s_law13_up : evl (envV realAr) (.call 22 [] []) = some (.ret (.s (.bool true)) []) := evl_of (n := 60) (by kernel_rfl)
end Go.Va
