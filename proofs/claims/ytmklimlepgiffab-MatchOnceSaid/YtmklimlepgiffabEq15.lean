/- The functions that the statement reaches, by equations: no statement of its own. -/
import Derived.Test.YtmklimlepgiffabEq14
import Derived.KernelRfl
set_option linter.unusedVariables false
set_option linter.unusedSimpArgs false
set_option linter.unusedSectionVars false
namespace Go.Va
open Go.Proofs
set_option maxRecDepth 100000
set_option maxHeartbeats 40000000
def stO10 (olds ws take kept gone many : List AV) (i : Nat) : St := { n := 228, k := 0, fr := [(0, .sl 2 olds .imm), (5, .s (.bool true)), (6, .sl 6 ws .full), (8, .ptr 0 0), (9, .sl 1 many .full), (10, .s (.int .i64 (.ofNat i)))], O := [[.sl 1 take .imm, .sl 1 kept .imm, .sl 1 gone .imm]] }
def stO10e (olds ws take kept gone many : List AV) (i : Nat) : St := { n := 228, k := 0, fr := [(0, .sl 2 olds .imm), (5, .s (.bool true)), (6, .sl 6 ws .full), (8, .ptr 0 0), (9, .sl 1 many .full), (10, .s (.int .i64 (.ofNat i))), (45, .s (.bool false))], O := [[.sl 1 take .imm, .sl 1 kept .imm, .sl 1 gone .imm]] }
def stO17 (olds ws take kept gone many : List AV) (i : Nat) (z : Int) (k : Nat) : St := { n := 228, k := 0, fr := [(0, .sl 2 olds .imm), (5, .s (.bool true)), (6, .sl 6 ws .full), (8, .ptr 0 0), (9, .sl 1 many .full), (10, .s (.int .i64 (.ofNat i))), (11, .s (.int .i64 z)), (12, .s (.int .i64 (.ofNat k)))], O := [[.sl 1 take .imm, .sl 1 kept .imm, .sl 1 gone .imm]] }
def stO17e (olds ws take kept gone many : List AV) (i : Nat) (z : Int) (k : Nat) : St := { n := 228, k := 0, fr := [(0, .sl 2 olds .imm), (5, .s (.bool true)), (6, .sl 6 ws .full), (8, .ptr 0 0), (9, .sl 1 many .full), (10, .s (.int .i64 (.ofNat i))), (11, .s (.int .i64 z)), (12, .s (.int .i64 (.ofNat k))), (82, .s (.bool false))], O := [[.sl 1 take .imm, .sl 1 kept .imm, .sl 1 gone .imm]] }
section
variable (A : Ar) (hA : ArOk A) (olds ws ats ks take kept gone many many2 rest : List AV) (n m i k v t u : Nat) (kd c c2 z : Int) (tag key text a b : ByteArray)
include hA
theorem lp_o17_c {r : Option Res} (e0 : olds.length = n) (e1 : ws.length = m) (e2 : lget ws i = some (.agg (wC .imm kd tag key text ats ks))) (e3 : Nat.ble (Nat.succ i) m = true) (e4 : 0 + i = i) (e5 : many.length = n) (e6 : Nat.ble (Nat.succ k) n = true) (e7 : 0 + k = k) (e8 : lget many k = some (.s (.int .i64 c))) (h1 : A.lt (.ofNat k) (.ofNat n) = true) (h2 : A.add .i64 (.ofNat k) 1 = .ofNat (Nat.succ k)) (h3 : A.eq c 0 = false)
    (hr : lpOf (envV A) 11 bd11 17 (stO17 olds ws take kept gone many i z (Nat.succ k)) = r) : lpOf (envV A) 11 bd11 17 (stO17 olds ws take kept gone many i z k) = r := by
  unfold stO17 at hr ⊢
  unfold wC at e2
  rw [lp_step (envV A) 11 (c0 := bd11) (lv := lvF11) rfl rfl]
  have hnle := hA.nleE; have hneq := hA.neqE
  rw [lp_split (lpOf (envV A) 11 bd11) 17]
  generalize lpOf (envV A) 11 bd11 17 = L17 at e0 e1 e2 e3 e4 e5 e6 e7 e8 h1 h2 h3 hr ⊢
  generalize lpOf (envV A) 11 bd11 = LP
  generalize evl (envV A) = E at e0 e1 e2 e3 e4 e5 e6 e7 e8 h1 h2 h3 hr ⊢
  obtain ⟨aadd, asub, amul, arem, aquo, awr, ashr, aeq, alt, ale, aseq, aslt, acat, acut, asiz, aat, anle, aneq, afit⟩ := A
  simp only at hnle hneq
  subst hnle hneq
  try simp only at h1 h2 h3 hr
  conv at e0 => lhs; cbv
  conv at e1 => lhs; cbv
  conv at e2 => lhs; cbv
  conv at e3 => lhs; cbv
  conv at e4 => lhs; cbv
  conv at e5 => lhs; cbv
  conv at e6 => lhs; cbv
  conv at e7 => lhs; cbv
  conv at e8 => lhs; cbv
  cbv
  rewrite [e0]
  cbv
  rewrite [h1]
  cbv
  rewrite [e5]
  cbv
  rewrite [e6]
  cbv
  rewrite [e7]
  cbv
  rewrite [e8]
  cbv
  rewrite [h3]
  cbv
  rewrite [h2]
  cbv
  rewrite [hr]
  cbv
theorem lp_o17_t {r : Option Res} (e0 : olds.length = n) (e1 : ws.length = m) (e2 : lget ws i = some (.agg (wC .imm kd tag key text ats ks))) (e3 : Nat.ble (Nat.succ i) m = true) (e4 : 0 + i = i) (e5 : many.length = n) (e6 : Nat.ble (Nat.succ k) n = true) (e7 : 0 + k = k) (e8 : lget many k = some (.s (.int .i64 c))) (e9 : lget olds k = some (.agg [.s (.string a), .s (.string b)])) (h1 : A.lt (.ofNat k) (.ofNat n) = true) (h2 : A.add .i64 (.ofNat k) 1 = .ofNat (Nat.succ k)) (h3 : A.eq c 0 = true) (h4 : A.seq a tag = false)
    (hr : lpOf (envV A) 11 bd11 17 (stO17 olds ws take kept gone many i z (Nat.succ k)) = r) : lpOf (envV A) 11 bd11 17 (stO17 olds ws take kept gone many i z k) = r := by
  unfold stO17 at hr ⊢
  unfold wC at e2
  rw [lp_step (envV A) 11 (c0 := bd11) (lv := lvF11) rfl rfl]
  have hnle := hA.nleE; have hneq := hA.neqE
  rw [lp_split (lpOf (envV A) 11 bd11) 17]
  generalize lpOf (envV A) 11 bd11 17 = L17 at e0 e1 e2 e3 e4 e5 e6 e7 e8 e9 h1 h2 h3 h4 hr ⊢
  generalize lpOf (envV A) 11 bd11 = LP
  generalize evl (envV A) = E at e0 e1 e2 e3 e4 e5 e6 e7 e8 e9 h1 h2 h3 h4 hr ⊢
  obtain ⟨aadd, asub, amul, arem, aquo, awr, ashr, aeq, alt, ale, aseq, aslt, acat, acut, asiz, aat, anle, aneq, afit⟩ := A
  simp only at hnle hneq
  subst hnle hneq
  try simp only at h1 h2 h3 h4 hr
  conv at e0 => lhs; cbv
  conv at e1 => lhs; cbv
  conv at e2 => lhs; cbv
  conv at e3 => lhs; cbv
  conv at e4 => lhs; cbv
  conv at e5 => lhs; cbv
  conv at e6 => lhs; cbv
  conv at e7 => lhs; cbv
  conv at e8 => lhs; cbv
  conv at e9 => lhs; cbv
  cbv
  rewrite [e0]
  cbv
  rewrite [h1]
  cbv
  rewrite [e5]
  cbv
  rewrite [e6]
  cbv
  rewrite [e7]
  cbv
  rewrite [e8]
  cbv
  rewrite [h3]
  cbv
  rewrite [e9]
  cbv
  rewrite [e1]
  cbv
  rewrite [e3]
  cbv
  rewrite [e4]
  cbv
  rewrite [e2]
  cbv
  rewrite [h4]
  cbv
  rewrite [h2]
  cbv
  rewrite [hr]
  cbv
theorem lp_o17_k {r : Option Res} (e0 : olds.length = n) (e1 : ws.length = m) (e2 : lget ws i = some (.agg (wC .imm kd tag key text ats ks))) (e3 : Nat.ble (Nat.succ i) m = true) (e4 : 0 + i = i) (e5 : many.length = n) (e6 : Nat.ble (Nat.succ k) n = true) (e7 : 0 + k = k) (e8 : lget many k = some (.s (.int .i64 c))) (e9 : lget olds k = some (.agg [.s (.string a), .s (.string b)])) (h1 : A.lt (.ofNat k) (.ofNat n) = true) (h2 : A.add .i64 (.ofNat k) 1 = .ofNat (Nat.succ k)) (h3 : A.eq c 0 = true) (h4 : A.seq a tag = true) (h5 : A.seq b key = false)
    (hr : lpOf (envV A) 11 bd11 17 (stO17 olds ws take kept gone many i z (Nat.succ k)) = r) : lpOf (envV A) 11 bd11 17 (stO17 olds ws take kept gone many i z k) = r := by
  unfold stO17 at hr ⊢
  unfold wC at e2
  rw [lp_step (envV A) 11 (c0 := bd11) (lv := lvF11) rfl rfl]
  have hnle := hA.nleE; have hneq := hA.neqE
  rw [lp_split (lpOf (envV A) 11 bd11) 17]
  generalize lpOf (envV A) 11 bd11 17 = L17 at e0 e1 e2 e3 e4 e5 e6 e7 e8 e9 h1 h2 h3 h4 h5 hr ⊢
  generalize lpOf (envV A) 11 bd11 = LP
  generalize evl (envV A) = E at e0 e1 e2 e3 e4 e5 e6 e7 e8 e9 h1 h2 h3 h4 h5 hr ⊢
  obtain ⟨aadd, asub, amul, arem, aquo, awr, ashr, aeq, alt, ale, aseq, aslt, acat, acut, asiz, aat, anle, aneq, afit⟩ := A
  simp only at hnle hneq
  subst hnle hneq
  try simp only at h1 h2 h3 h4 h5 hr
  conv at e0 => lhs; cbv
  conv at e1 => lhs; cbv
  conv at e2 => lhs; cbv
  conv at e3 => lhs; cbv
  conv at e4 => lhs; cbv
  conv at e5 => lhs; cbv
  conv at e6 => lhs; cbv
  conv at e7 => lhs; cbv
  conv at e8 => lhs; cbv
  conv at e9 => lhs; cbv
  cbv
  rewrite [e0]
  cbv
  rewrite [h1]
  cbv
  rewrite [e5]
  cbv
  rewrite [e6]
  cbv
  rewrite [e7]
  cbv
  rewrite [e8]
  cbv
  rewrite [h3]
  cbv
  rewrite [e9]
  cbv
  rewrite [e1]
  cbv
  rewrite [e3]
  cbv
  rewrite [e4]
  cbv
  rewrite [e2]
  cbv
  rewrite [h4]
  cbv
  rewrite [e9]
  cbv
  rewrite [e1]
  cbv
  rewrite [e3]
  cbv
  rewrite [e4]
  cbv
  rewrite [e2]
  cbv
  rewrite [h5]
  cbv
  rewrite [h2]
  cbv
  rewrite [hr]
  cbv
theorem lp_o17_end (e0 : olds.length = n) (h1 : A.lt (.ofNat k) (.ofNat n) = false)
     : lpOf (envV A) 11 bd11 17 (stO17 olds ws take kept gone many i z k) = some (.code (.exit 2) (stO17e olds ws take kept gone many i z k)) := by
  unfold stO17 stO17e
  rw [lp_step (envV A) 11 (c0 := bd11) (lv := lvF11) rfl rfl]
  have hnle := hA.nleE; have hneq := hA.neqE
  generalize lpOf (envV A) 11 bd11 = LP
  generalize evl (envV A) = E at e0 h1 ⊢
  obtain ⟨aadd, asub, amul, arem, aquo, awr, ashr, aeq, alt, ale, aseq, aslt, acat, acut, asiz, aat, anle, aneq, afit⟩ := A
  simp only at hnle hneq
  subst hnle hneq
  try simp only at h1
  conv at e0 => lhs; cbv
  cbv
  rewrite [e0]
  cbv
  rewrite [h1]
  cbv
theorem lp_o10_n1 {r : Option Res} (e0 : olds.length = n) (e1 : ws.length = m) (e2 : lget ws i = some (.agg (wC .imm kd tag key text ats ks))) (e3 : Nat.ble (Nat.succ i) m = true) (e4 : 0 + i = i) (e5 : take.length = t) (e6 : Nat.ble (Nat.succ i) t = true) (e7 : lget take i = some (.s (.int .i64 z))) (h1 : A.lt (.ofNat i) (.ofNat m) = true) (h2 : A.add .i64 (.ofNat i) 1 = .ofNat (Nat.succ i)) (h3 : A.le (.ofNat n) z = false) (h4 : A.lt z (-1) = false) (h5 : A.lt z 0 = true) (h6 : A.eq kd 1 = false)
    (hr : lpOf (envV A) 11 bd11 10 (stO10 olds ws take kept gone many (Nat.succ i)) = r) : lpOf (envV A) 11 bd11 10 (stO10 olds ws take kept gone many i) = r := by
  unfold stO10 at hr ⊢
  unfold wC at e2
  rw [lp_step (envV A) 11 (c0 := bd11) (lv := lvF11) rfl rfl]
  have hnle := hA.nleE; have hneq := hA.neqE
  rw [lp_split (lpOf (envV A) 11 bd11) 10]
  generalize lpOf (envV A) 11 bd11 10 = L10 at e0 e1 e2 e3 e4 e5 e6 e7 h1 h2 h3 h4 h5 h6 hr ⊢
  generalize lpOf (envV A) 11 bd11 = LP
  generalize evl (envV A) = E at e0 e1 e2 e3 e4 e5 e6 e7 h1 h2 h3 h4 h5 h6 hr ⊢
  obtain ⟨aadd, asub, amul, arem, aquo, awr, ashr, aeq, alt, ale, aseq, aslt, acat, acut, asiz, aat, anle, aneq, afit⟩ := A
  simp only at hnle hneq
  subst hnle hneq
  try simp only at h1 h2 h3 h4 h5 h6 hr
  conv at e0 => lhs; cbv
  conv at e1 => lhs; cbv
  conv at e2 => lhs; cbv
  conv at e3 => lhs; cbv
  conv at e4 => lhs; cbv
  conv at e5 => lhs; cbv
  conv at e6 => lhs; cbv
  conv at e7 => lhs; cbv
  cbv
  rewrite [e1]
  cbv
  rewrite [h1]
  cbv
  rewrite [e7]
  cbv
  rewrite [e0]
  cbv
  rewrite [h3]
  cbv
  rewrite [h4]
  cbv
  rewrite [e1]
  cbv
  rewrite [e3]
  cbv
  rewrite [e4]
  cbv
  rewrite [e2]
  cbv
  rewrite [h6]
  cbv
  rewrite [h5]
  cbv
  rewrite [h2]
  cbv
  rewrite [hr]
  cbv
theorem lp_o10_n2 {r : Option Res} (e0 : olds.length = n) (e1 : ws.length = m) (e2 : lget ws i = some (.agg (wC .imm kd tag key text ats ks))) (e3 : Nat.ble (Nat.succ i) m = true) (e4 : 0 + i = i) (e5 : take.length = t) (e6 : Nat.ble (Nat.succ i) t = true) (e7 : lget take i = some (.s (.int .i64 z))) (h1 : A.lt (.ofNat i) (.ofNat m) = true) (h2 : A.add .i64 (.ofNat i) 1 = .ofNat (Nat.succ i)) (h3 : A.le (.ofNat n) z = false) (h4 : A.lt z (-1) = false) (h5 : A.lt z 0 = true) (h6 : A.eq kd 1 = true) (h7 : A.seq key ⟨#[]⟩ = true)
    (hr : lpOf (envV A) 11 bd11 10 (stO10 olds ws take kept gone many (Nat.succ i)) = r) : lpOf (envV A) 11 bd11 10 (stO10 olds ws take kept gone many i) = r := by
  unfold stO10 at hr ⊢
  unfold wC at e2
  rw [lp_step (envV A) 11 (c0 := bd11) (lv := lvF11) rfl rfl]
  have hnle := hA.nleE; have hneq := hA.neqE
  rw [lp_split (lpOf (envV A) 11 bd11) 10]
  generalize lpOf (envV A) 11 bd11 10 = L10 at e0 e1 e2 e3 e4 e5 e6 e7 h1 h2 h3 h4 h5 h6 h7 hr ⊢
  generalize lpOf (envV A) 11 bd11 = LP
  generalize evl (envV A) = E at e0 e1 e2 e3 e4 e5 e6 e7 h1 h2 h3 h4 h5 h6 h7 hr ⊢
  obtain ⟨aadd, asub, amul, arem, aquo, awr, ashr, aeq, alt, ale, aseq, aslt, acat, acut, asiz, aat, anle, aneq, afit⟩ := A
  simp only at hnle hneq
  subst hnle hneq
  try simp only at h1 h2 h3 h4 h5 h6 h7 hr
  conv at e0 => lhs; cbv
  conv at e1 => lhs; cbv
  conv at e2 => lhs; cbv
  conv at e3 => lhs; cbv
  conv at e4 => lhs; cbv
  conv at e5 => lhs; cbv
  conv at e6 => lhs; cbv
  conv at e7 => lhs; cbv
  cbv
  rewrite [e1]
  cbv
  rewrite [h1]
  cbv
  rewrite [e7]
  cbv
  rewrite [e0]
  cbv
  rewrite [h3]
  cbv
  rewrite [h4]
  cbv
  rewrite [e1]
  cbv
  rewrite [e3]
  cbv
  rewrite [e4]
  cbv
  rewrite [e2]
  cbv
  rewrite [h6]
  cbv
  rewrite [e1]
  cbv
  rewrite [e3]
  cbv
  rewrite [e4]
  cbv
  rewrite [e2]
  cbv
  rewrite [h7]
  cbv
  rewrite [h5]
  cbv
  rewrite [h2]
  cbv
  rewrite [hr]
  cbv
theorem lp_o10_n3 {r : Option Res} (e0 : olds.length = n) (e1 : ws.length = m) (e2 : lget ws i = some (.agg (wC .imm kd tag key text ats ks))) (e3 : Nat.ble (Nat.succ i) m = true) (e4 : 0 + i = i) (e5 : take.length = t) (e6 : Nat.ble (Nat.succ i) t = true) (e7 : lget take i = some (.s (.int .i64 z))) (h1 : A.lt (.ofNat i) (.ofNat m) = true) (h2 : A.add .i64 (.ofNat i) 1 = .ofNat (Nat.succ i)) (h3 : A.le (.ofNat n) z = false) (h4 : A.lt z (-1) = false) (h5 : A.lt z 0 = true) (h6 : A.eq kd 1 = true) (h7 : A.seq key ⟨#[]⟩ = false) (h8 : lpOf (envV A) 11 bd11 17 (stO17 olds ws take kept gone many i z 0) = some (.code (.exit 2) (stO17e olds ws take kept gone many i z k)))
    (hr : lpOf (envV A) 11 bd11 10 (stO10 olds ws take kept gone many (Nat.succ i)) = r) : lpOf (envV A) 11 bd11 10 (stO10 olds ws take kept gone many i) = r := by
  unfold stO10 at hr ⊢
  unfold wC at e2
  unfold stO17 stO17e at h8
  simp only [show Int.ofNat 0 = 0 from rfl] at h8
  rw [lp_step (envV A) 11 (c0 := bd11) (lv := lvF11) rfl rfl]
  have hnle := hA.nleE; have hneq := hA.neqE
  rw [lp_split (lpOf (envV A) 11 bd11) 10]
  generalize lpOf (envV A) 11 bd11 10 = L10 at e0 e1 e2 e3 e4 e5 e6 e7 h1 h2 h3 h4 h5 h6 h7 h8 hr ⊢
  rw [lp_split (lpOf (envV A) 11 bd11) 17]
  generalize lpOf (envV A) 11 bd11 17 = L17 at e0 e1 e2 e3 e4 e5 e6 e7 h1 h2 h3 h4 h5 h6 h7 h8 hr ⊢
  generalize lpOf (envV A) 11 bd11 = LP
  generalize evl (envV A) = E at e0 e1 e2 e3 e4 e5 e6 e7 h1 h2 h3 h4 h5 h6 h7 h8 hr ⊢
  obtain ⟨aadd, asub, amul, arem, aquo, awr, ashr, aeq, alt, ale, aseq, aslt, acat, acut, asiz, aat, anle, aneq, afit⟩ := A
  simp only at hnle hneq
  subst hnle hneq
  try simp only at h1 h2 h3 h4 h5 h6 h7 h8 hr
  conv at e0 => lhs; cbv
  conv at e1 => lhs; cbv
  conv at e2 => lhs; cbv
  conv at e3 => lhs; cbv
  conv at e4 => lhs; cbv
  conv at e5 => lhs; cbv
  conv at e6 => lhs; cbv
  conv at e7 => lhs; cbv
  cbv
  rewrite [e1]
  cbv
  rewrite [h1]
  cbv
  rewrite [e7]
  cbv
  rewrite [e0]
  cbv
  rewrite [h3]
  cbv
  rewrite [h4]
  cbv
  rewrite [e1]
  cbv
  rewrite [e3]
  cbv
  rewrite [e4]
  cbv
  rewrite [e2]
  cbv
  rewrite [h6]
  cbv
  rewrite [e1]
  cbv
  rewrite [e3]
  cbv
  rewrite [e4]
  cbv
  rewrite [e2]
  cbv
  rewrite [h7]
  cbv
  rewrite [h5]
  cbv
  rewrite [h8]
  cbv
  rewrite [h5]
  cbv
  rewrite [h2]
  cbv
  rewrite [hr]
  cbv
theorem lp_o10_end (e1 : ws.length = m) (h1 : A.lt (.ofNat i) (.ofNat m) = false) : lpOf (envV A) 11 bd11 10 (stO10 olds ws take kept gone many i) = some (.code (.exit 0) (stO10e olds ws take kept gone many i)) := by
  unfold stO10 stO10e
  rw [lp_step (envV A) 11 (c0 := bd11) (lv := lvF11) rfl rfl]
  have hnle := hA.nleE; have hneq := hA.neqE
  generalize lpOf (envV A) 11 bd11 = LP
  generalize evl (envV A) = E at e1 h1 ⊢
  obtain ⟨aadd, asub, amul, arem, aquo, awr, ashr, aeq, alt, ale, aseq, aslt, acat, acut, asiz, aat, anle, aneq, afit⟩ := A
  simp only at hnle hneq
  subst hnle hneq
  try simp only at h1
  conv at e1 => lhs; cbv
  cbv
  rewrite [e1]
  cbv
  rewrite [h1]
  cbv
end
end Go.Va
namespace Go.Va
open Go.Proofs
set_option maxRecDepth 100000
set_option maxHeartbeats 40000000
section
variable (A : Ar) (hA : ArOk A) (olds ws ats ks take kept gone many many2 rest : List AV) (n m i k v t u : Nat) (kd c c2 z : Int) (tag key text a b : ByteArray)
include hA
theorem lp_o10_h1 {r : Option Res} (e0 : olds.length = n) (e1 : ws.length = m) (e2 : lget ws i = some (.agg (wC .imm kd tag key text ats ks))) (e3 : Nat.ble (Nat.succ i) m = true) (e4 : 0 + i = i) (e5 : take.length = t) (e6 : Nat.ble (Nat.succ i) t = true) (e7 : lget take i = some (.s (.int .i64 (.ofNat v)))) (e8 : many.length = n) (e9 : Nat.ble (Nat.succ v) n = true) (ea : 0 + v = v) (eb : lget many v = some (.s (.int .i64 c))) (ec : lset many v (.s (.int .i64 c2)) = many2) (ed : lget olds v = some (.agg [.s (.string a), .s (.string b)])) (h1 : A.lt (.ofNat i) (.ofNat m) = true) (h2 : A.add .i64 (.ofNat i) 1 = .ofNat (Nat.succ i)) (h3 : A.le (.ofNat n) (.ofNat v) = false) (h4 : A.lt (.ofNat v) (-1) = false) (h5 : A.lt (.ofNat v) 0 = false) (h6 : A.add .i64 c 1 = c2) (h7 : A.eq kd 1 = true) (h8 : A.eq kd 2 = false) (h9 : A.eq kd 4 = false) (ha : A.seq a tag = true) (hb : A.seq b key = true) (hc : A.seq key ⟨#[]⟩ = true)
    (hr : lpOf (envV A) 11 bd11 10 (stO10 olds ws take kept gone many2 (Nat.succ i)) = r) : lpOf (envV A) 11 bd11 10 (stO10 olds ws take kept gone many i) = r := by
  unfold stO10 at hr ⊢
  unfold wC at e2
  rw [lp_step (envV A) 11 (c0 := bd11) (lv := lvF11) rfl rfl]
  have hnle := hA.nleE; have hneq := hA.neqE
  rw [lp_split (lpOf (envV A) 11 bd11) 10]
  generalize lpOf (envV A) 11 bd11 10 = L10 at e0 e1 e2 e3 e4 e5 e6 e7 e8 e9 ea eb ec ed h1 h2 h3 h4 h5 h6 h7 h8 h9 ha hb hc hr ⊢
  generalize lpOf (envV A) 11 bd11 = LP
  generalize evl (envV A) = E at e0 e1 e2 e3 e4 e5 e6 e7 e8 e9 ea eb ec ed h1 h2 h3 h4 h5 h6 h7 h8 h9 ha hb hc hr ⊢
  obtain ⟨aadd, asub, amul, arem, aquo, awr, ashr, aeq, alt, ale, aseq, aslt, acat, acut, asiz, aat, anle, aneq, afit⟩ := A
  simp only at hnle hneq
  subst hnle hneq
  try simp only at h1 h2 h3 h4 h5 h6 h7 h8 h9 ha hb hc hr
  conv at e0 => lhs; cbv
  conv at e1 => lhs; cbv
  conv at e2 => lhs; cbv
  conv at e3 => lhs; cbv
  conv at e4 => lhs; cbv
  conv at e5 => lhs; cbv
  conv at e6 => lhs; cbv
  conv at e7 => lhs; cbv
  conv at e8 => lhs; cbv
  conv at e9 => lhs; cbv
  conv at ea => lhs; cbv
  conv at eb => lhs; cbv
  conv at ec => lhs; cbv
  conv at ed => lhs; cbv
  cbv
  rewrite [e1]
  cbv
  rewrite [h1]
  cbv
  rewrite [e7]
  cbv
  rewrite [e0]
  cbv
  rewrite [h3]
  cbv
  rewrite [h4]
  cbv
  rewrite [e1]
  cbv
  rewrite [e3]
  cbv
  rewrite [e4]
  cbv
  rewrite [e2]
  cbv
  rewrite [h7]
  cbv
  rewrite [e1]
  cbv
  rewrite [e3]
  cbv
  rewrite [e4]
  cbv
  rewrite [e2]
  cbv
  rewrite [hc]
  cbv
  rewrite [h5]
  cbv
  rewrite [e8]
  cbv
  rewrite [e9]
  cbv
  rewrite [ea]
  cbv
  rewrite [eb]
  cbv
  rewrite [e9]
  cbv
  rewrite [ea]
  cbv
  rewrite [eb]
  cbv
  rewrite [e1]
  cbv
  rewrite [e3]
  cbv
  rewrite [e4]
  cbv
  rewrite [e2]
  cbv
  rewrite [h6]
  cbv
  rewrite [ec]
  cbv
  rewrite [h7]
  cbv
  rewrite [ed]
  cbv
  rewrite [e1]
  cbv
  rewrite [e3]
  cbv
  rewrite [e4]
  cbv
  rewrite [e2]
  cbv
  rewrite [ha]
  cbv
  rewrite [ed]
  cbv
  rewrite [e1]
  cbv
  rewrite [e3]
  cbv
  rewrite [e4]
  cbv
  rewrite [e2]
  cbv
  rewrite [hb]
  cbv
  rewrite [e1]
  cbv
  rewrite [e3]
  cbv
  rewrite [e4]
  cbv
  rewrite [e2]
  cbv
  rewrite [h8]
  cbv
  rewrite [e1]
  cbv
  rewrite [e3]
  cbv
  rewrite [e4]
  cbv
  rewrite [e2]
  cbv
  rewrite [h9]
  cbv
  rewrite [h2]
  cbv
  rewrite [hr]
  cbv
theorem lp_o10_h2 {r : Option Res} (e0 : olds.length = n) (e1 : ws.length = m) (e2 : lget ws i = some (.agg (wC .imm kd tag key text ats ks))) (e3 : Nat.ble (Nat.succ i) m = true) (e4 : 0 + i = i) (e5 : take.length = t) (e6 : Nat.ble (Nat.succ i) t = true) (e7 : lget take i = some (.s (.int .i64 (.ofNat v)))) (e8 : many.length = n) (e9 : Nat.ble (Nat.succ v) n = true) (ea : 0 + v = v) (eb : lget many v = some (.s (.int .i64 c))) (ec : lset many v (.s (.int .i64 c2)) = many2) (ed : lget olds v = some (.agg [.s (.string a), .s (.string b)])) (h1 : A.lt (.ofNat i) (.ofNat m) = true) (h2 : A.add .i64 (.ofNat i) 1 = .ofNat (Nat.succ i)) (h3 : A.le (.ofNat n) (.ofNat v) = false) (h4 : A.lt (.ofNat v) (-1) = false) (h5 : A.lt (.ofNat v) 0 = false) (h6 : A.add .i64 c 1 = c2) (h7 : A.eq kd 1 = true) (h8 : A.eq kd 2 = false) (h9 : A.eq kd 4 = false) (ha : A.seq a tag = true) (hb : A.seq b key = true) (hc : A.seq key ⟨#[]⟩ = false)
    (hr : lpOf (envV A) 11 bd11 10 (stO10 olds ws take kept gone many2 (Nat.succ i)) = r) : lpOf (envV A) 11 bd11 10 (stO10 olds ws take kept gone many i) = r := by
  unfold stO10 at hr ⊢
  unfold wC at e2
  rw [lp_step (envV A) 11 (c0 := bd11) (lv := lvF11) rfl rfl]
  have hnle := hA.nleE; have hneq := hA.neqE
  rw [lp_split (lpOf (envV A) 11 bd11) 10]
  generalize lpOf (envV A) 11 bd11 10 = L10 at e0 e1 e2 e3 e4 e5 e6 e7 e8 e9 ea eb ec ed h1 h2 h3 h4 h5 h6 h7 h8 h9 ha hb hc hr ⊢
  generalize lpOf (envV A) 11 bd11 = LP
  generalize evl (envV A) = E at e0 e1 e2 e3 e4 e5 e6 e7 e8 e9 ea eb ec ed h1 h2 h3 h4 h5 h6 h7 h8 h9 ha hb hc hr ⊢
  obtain ⟨aadd, asub, amul, arem, aquo, awr, ashr, aeq, alt, ale, aseq, aslt, acat, acut, asiz, aat, anle, aneq, afit⟩ := A
  simp only at hnle hneq
  subst hnle hneq
  try simp only at h1 h2 h3 h4 h5 h6 h7 h8 h9 ha hb hc hr
  conv at e0 => lhs; cbv
  conv at e1 => lhs; cbv
  conv at e2 => lhs; cbv
  conv at e3 => lhs; cbv
  conv at e4 => lhs; cbv
  conv at e5 => lhs; cbv
  conv at e6 => lhs; cbv
  conv at e7 => lhs; cbv
  conv at e8 => lhs; cbv
  conv at e9 => lhs; cbv
  conv at ea => lhs; cbv
  conv at eb => lhs; cbv
  conv at ec => lhs; cbv
  conv at ed => lhs; cbv
  cbv
  rewrite [e1]
  cbv
  rewrite [h1]
  cbv
  rewrite [e7]
  cbv
  rewrite [e0]
  cbv
  rewrite [h3]
  cbv
  rewrite [h4]
  cbv
  rewrite [e1]
  cbv
  rewrite [e3]
  cbv
  rewrite [e4]
  cbv
  rewrite [e2]
  cbv
  rewrite [h7]
  cbv
  rewrite [e1]
  cbv
  rewrite [e3]
  cbv
  rewrite [e4]
  cbv
  rewrite [e2]
  cbv
  rewrite [hc]
  cbv
  rewrite [h5]
  cbv
  rewrite [h5]
  cbv
  rewrite [e8]
  cbv
  rewrite [e9]
  cbv
  rewrite [ea]
  cbv
  rewrite [eb]
  cbv
  rewrite [e9]
  cbv
  rewrite [ea]
  cbv
  rewrite [eb]
  cbv
  rewrite [e1]
  cbv
  rewrite [e3]
  cbv
  rewrite [e4]
  cbv
  rewrite [e2]
  cbv
  rewrite [h6]
  cbv
  rewrite [ec]
  cbv
  rewrite [h7]
  cbv
  rewrite [ed]
  cbv
  rewrite [e1]
  cbv
  rewrite [e3]
  cbv
  rewrite [e4]
  cbv
  rewrite [e2]
  cbv
  rewrite [ha]
  cbv
  rewrite [ed]
  cbv
  rewrite [e1]
  cbv
  rewrite [e3]
  cbv
  rewrite [e4]
  cbv
  rewrite [e2]
  cbv
  rewrite [hb]
  cbv
  rewrite [e1]
  cbv
  rewrite [e3]
  cbv
  rewrite [e4]
  cbv
  rewrite [e2]
  cbv
  rewrite [h8]
  cbv
  rewrite [e1]
  cbv
  rewrite [e3]
  cbv
  rewrite [e4]
  cbv
  rewrite [e2]
  cbv
  rewrite [h9]
  cbv
  rewrite [h2]
  cbv
  rewrite [hr]
  cbv
theorem lp_o10_h3 {r : Option Res} (e0 : olds.length = n) (e1 : ws.length = m) (e2 : lget ws i = some (.agg (wC .imm kd tag key text ats ks))) (e3 : Nat.ble (Nat.succ i) m = true) (e4 : 0 + i = i) (e5 : take.length = t) (e6 : Nat.ble (Nat.succ i) t = true) (e7 : lget take i = some (.s (.int .i64 (.ofNat v)))) (e8 : many.length = n) (e9 : Nat.ble (Nat.succ v) n = true) (ea : 0 + v = v) (eb : lget many v = some (.s (.int .i64 c))) (ec : lset many v (.s (.int .i64 c2)) = many2) (ed : lget olds v = some (.agg [.s (.string a), .s (.string b)])) (h1 : A.lt (.ofNat i) (.ofNat m) = true) (h2 : A.add .i64 (.ofNat i) 1 = .ofNat (Nat.succ i)) (h3 : A.le (.ofNat n) (.ofNat v) = false) (h4 : A.lt (.ofNat v) (-1) = false) (h5 : A.lt (.ofNat v) 0 = false) (h6 : A.add .i64 c 1 = c2) (h7 : A.eq kd 1 = false) (h8 : A.eq kd 2 = true) (h9 : A.eq kd 4 = false) (ha : A.seq a ⟨#[]⟩ = true)
    (hr : lpOf (envV A) 11 bd11 10 (stO10 olds ws take kept gone many2 (Nat.succ i)) = r) : lpOf (envV A) 11 bd11 10 (stO10 olds ws take kept gone many i) = r := by
  unfold stO10 at hr ⊢
  unfold wC at e2
  rw [lp_step (envV A) 11 (c0 := bd11) (lv := lvF11) rfl rfl]
  have hnle := hA.nleE; have hneq := hA.neqE
  rw [lp_split (lpOf (envV A) 11 bd11) 10]
  generalize lpOf (envV A) 11 bd11 10 = L10 at e0 e1 e2 e3 e4 e5 e6 e7 e8 e9 ea eb ec ed h1 h2 h3 h4 h5 h6 h7 h8 h9 ha hr ⊢
  generalize lpOf (envV A) 11 bd11 = LP
  generalize evl (envV A) = E at e0 e1 e2 e3 e4 e5 e6 e7 e8 e9 ea eb ec ed h1 h2 h3 h4 h5 h6 h7 h8 h9 ha hr ⊢
  obtain ⟨aadd, asub, amul, arem, aquo, awr, ashr, aeq, alt, ale, aseq, aslt, acat, acut, asiz, aat, anle, aneq, afit⟩ := A
  simp only at hnle hneq
  subst hnle hneq
  try simp only at h1 h2 h3 h4 h5 h6 h7 h8 h9 ha hr
  conv at e0 => lhs; cbv
  conv at e1 => lhs; cbv
  conv at e2 => lhs; cbv
  conv at e3 => lhs; cbv
  conv at e4 => lhs; cbv
  conv at e5 => lhs; cbv
  conv at e6 => lhs; cbv
  conv at e7 => lhs; cbv
  conv at e8 => lhs; cbv
  conv at e9 => lhs; cbv
  conv at ea => lhs; cbv
  conv at eb => lhs; cbv
  conv at ec => lhs; cbv
  conv at ed => lhs; cbv
  cbv
  rewrite [e1]
  cbv
  rewrite [h1]
  cbv
  rewrite [e7]
  cbv
  rewrite [e0]
  cbv
  rewrite [h3]
  cbv
  rewrite [h4]
  cbv
  rewrite [e1]
  cbv
  rewrite [e3]
  cbv
  rewrite [e4]
  cbv
  rewrite [e2]
  cbv
  rewrite [h7]
  cbv
  rewrite [h5]
  cbv
  rewrite [e8]
  cbv
  rewrite [e9]
  cbv
  rewrite [ea]
  cbv
  rewrite [eb]
  cbv
  rewrite [e9]
  cbv
  rewrite [ea]
  cbv
  rewrite [eb]
  cbv
  rewrite [e1]
  cbv
  rewrite [e3]
  cbv
  rewrite [e4]
  cbv
  rewrite [e2]
  cbv
  rewrite [h6]
  cbv
  rewrite [ec]
  cbv
  rewrite [h7]
  cbv
  rewrite [e1]
  cbv
  rewrite [e3]
  cbv
  rewrite [e4]
  cbv
  rewrite [e2]
  cbv
  rewrite [h8]
  cbv
  rewrite [ed]
  cbv
  rewrite [ha]
  cbv
  rewrite [e1]
  cbv
  rewrite [e3]
  cbv
  rewrite [e4]
  cbv
  rewrite [e2]
  cbv
  rewrite [h9]
  cbv
  rewrite [h2]
  cbv
  rewrite [hr]
  cbv
theorem lp_o10_h4 {r : Option Res} (e0 : olds.length = n) (e1 : ws.length = m) (e2 : lget ws i = some (.agg (wC .imm kd tag key text ats ks))) (e3 : Nat.ble (Nat.succ i) m = true) (e4 : 0 + i = i) (e5 : take.length = t) (e6 : Nat.ble (Nat.succ i) t = true) (e7 : lget take i = some (.s (.int .i64 (.ofNat v)))) (e8 : many.length = n) (e9 : Nat.ble (Nat.succ v) n = true) (ea : 0 + v = v) (eb : lget many v = some (.s (.int .i64 c))) (ec : lset many v (.s (.int .i64 c2)) = many2) (ed : lget olds v = some (.agg [.s (.string a), .s (.string b)])) (h1 : A.lt (.ofNat i) (.ofNat m) = true) (h2 : A.add .i64 (.ofNat i) 1 = .ofNat (Nat.succ i)) (h3 : A.le (.ofNat n) (.ofNat v) = false) (h4 : A.lt (.ofNat v) (-1) = false) (h5 : A.lt (.ofNat v) 0 = false) (h6 : A.add .i64 c 1 = c2) (h7 : A.eq kd 1 = false) (h8 : A.eq kd 2 = false) (h9 : A.eq kd 4 = false)
    (hr : lpOf (envV A) 11 bd11 10 (stO10 olds ws take kept gone many2 (Nat.succ i)) = r) : lpOf (envV A) 11 bd11 10 (stO10 olds ws take kept gone many i) = r := by
  unfold stO10 at hr ⊢
  unfold wC at e2
  rw [lp_step (envV A) 11 (c0 := bd11) (lv := lvF11) rfl rfl]
  have hnle := hA.nleE; have hneq := hA.neqE
  rw [lp_split (lpOf (envV A) 11 bd11) 10]
  generalize lpOf (envV A) 11 bd11 10 = L10 at e0 e1 e2 e3 e4 e5 e6 e7 e8 e9 ea eb ec ed h1 h2 h3 h4 h5 h6 h7 h8 h9 hr ⊢
  generalize lpOf (envV A) 11 bd11 = LP
  generalize evl (envV A) = E at e0 e1 e2 e3 e4 e5 e6 e7 e8 e9 ea eb ec ed h1 h2 h3 h4 h5 h6 h7 h8 h9 hr ⊢
  obtain ⟨aadd, asub, amul, arem, aquo, awr, ashr, aeq, alt, ale, aseq, aslt, acat, acut, asiz, aat, anle, aneq, afit⟩ := A
  simp only at hnle hneq
  subst hnle hneq
  try simp only at h1 h2 h3 h4 h5 h6 h7 h8 h9 hr
  conv at e0 => lhs; cbv
  conv at e1 => lhs; cbv
  conv at e2 => lhs; cbv
  conv at e3 => lhs; cbv
  conv at e4 => lhs; cbv
  conv at e5 => lhs; cbv
  conv at e6 => lhs; cbv
  conv at e7 => lhs; cbv
  conv at e8 => lhs; cbv
  conv at e9 => lhs; cbv
  conv at ea => lhs; cbv
  conv at eb => lhs; cbv
  conv at ec => lhs; cbv
  conv at ed => lhs; cbv
  cbv
  rewrite [e1]
  cbv
  rewrite [h1]
  cbv
  rewrite [e7]
  cbv
  rewrite [e0]
  cbv
  rewrite [h3]
  cbv
  rewrite [h4]
  cbv
  rewrite [e1]
  cbv
  rewrite [e3]
  cbv
  rewrite [e4]
  cbv
  rewrite [e2]
  cbv
  rewrite [h7]
  cbv
  rewrite [h5]
  cbv
  rewrite [e8]
  cbv
  rewrite [e9]
  cbv
  rewrite [ea]
  cbv
  rewrite [eb]
  cbv
  rewrite [e9]
  cbv
  rewrite [ea]
  cbv
  rewrite [eb]
  cbv
  rewrite [e1]
  cbv
  rewrite [e3]
  cbv
  rewrite [e4]
  cbv
  rewrite [e2]
  cbv
  rewrite [h6]
  cbv
  rewrite [ec]
  cbv
  rewrite [h7]
  cbv
  rewrite [e1]
  cbv
  rewrite [e3]
  cbv
  rewrite [e4]
  cbv
  rewrite [e2]
  cbv
  rewrite [h8]
  cbv
  rewrite [e1]
  cbv
  rewrite [e3]
  cbv
  rewrite [e4]
  cbv
  rewrite [e2]
  cbv
  rewrite [h9]
  cbv
  rewrite [h2]
  cbv
  rewrite [hr]
  cbv
end
end Go.Va
namespace Go.Va
open Go.Proofs
set_option maxRecDepth 100000
set_option maxHeartbeats 4000000
def stO27 (olds many rest : List AV) (i : Nat) : St := { n := 228, k := 0, fr := [(0, .sl 2 olds .imm), (5, .s (.bool true)), (9, .sl 1 many .full), (13, .sl 1 rest .full), (14, .s (.int .i64 (.ofNat i)))], O := [] }
def stO27e (olds many rest : List AV) (i : Nat) : St := { n := 228, k := 0, fr := [(0, .sl 2 olds .imm), (5, .s (.bool true)), (9, .sl 1 many .full), (13, .sl 1 rest .full), (14, .s (.int .i64 (.ofNat i))), (190, .s (.bool false))], O := [] }
def stO33 (olds many : List AV) (i : Nat) : St := { n := 228, k := 0, fr := [(0, .sl 2 olds .imm), (5, .s (.bool true)), (9, .sl 1 many .full), (15, .s (.int .i64 (.ofNat i)))], O := [] }
def stO33e (olds many : List AV) (i : Nat) : St := { n := 228, k := 0, fr := [(0, .sl 2 olds .imm), (5, .s (.bool true)), (9, .sl 1 many .full), (15, .s (.int .i64 (.ofNat i))), (219, .s (.bool false))], O := [] }
section
variable (A : Ar) (hA : ArOk A) (olds xs ws ats ks take kept gone many many2 many3 rest : List AV) (n m i j k v t u : Nat) (c c2 : Int)
include hA
theorem lp_o27 {r : Option Res} (e0 : olds.length = n) (e1 : rest.length = t) (e2 : Nat.ble (Nat.succ i) t = true) (e3 : 0 + i = i) (e4 : lget rest i = some (.s (.int .i64 (.ofNat v)))) (e5 : many.length = n) (e6 : Nat.ble (Nat.succ v) n = true) (e7 : 0 + v = v) (e8 : lget many v = some (.s (.int .i64 c))) (e9 : lset many v (.s (.int .i64 c2)) = many2) (h1 : A.lt (.ofNat i) (.ofNat t) = true) (h2 : A.add .i64 (.ofNat i) 1 = .ofNat (Nat.succ i)) (h3 : A.lt (.ofNat v) 0 = false) (h4 : A.le (.ofNat n) (.ofNat v) = false) (h5 : A.add .i64 c 1 = c2)
    (hr : lpOf (envV A) 11 bd11 27 (stO27 olds many2 rest (Nat.succ i)) = r) : lpOf (envV A) 11 bd11 27 (stO27 olds many rest i) = r := by
  unfold stO27 at hr ⊢
  rw [lp_step (envV A) 11 (c0 := bd11) (lv := lvF11) rfl rfl]
  have hnle := hA.nleE; have hneq := hA.neqE
  rw [lp_split (lpOf (envV A) 11 bd11) 27]
  generalize lpOf (envV A) 11 bd11 27 = L27 at e0 e1 e2 e3 e4 e5 e6 e7 e8 e9 h1 h2 h3 h4 h5 hr ⊢
  generalize lpOf (envV A) 11 bd11 = LP
  generalize evl (envV A) = E at e0 e1 e2 e3 e4 e5 e6 e7 e8 e9 h1 h2 h3 h4 h5 hr ⊢
  obtain ⟨aadd, asub, amul, arem, aquo, awr, ashr, aeq, alt, ale, aseq, aslt, acat, acut, asiz, aat, anle, aneq, afit⟩ := A
  simp only at hnle hneq
  subst hnle hneq
  try simp only at h1 h2 h3 h4 h5 hr
  conv at e0 => lhs; cbv
  conv at e1 => lhs; cbv
  conv at e2 => lhs; cbv
  conv at e3 => lhs; cbv
  conv at e4 => lhs; cbv
  conv at e5 => lhs; cbv
  conv at e6 => lhs; cbv
  conv at e7 => lhs; cbv
  conv at e8 => lhs; cbv
  conv at e9 => lhs; cbv
  cbv
  rewrite [e1]
  cbv
  rewrite [h1]
  cbv
  rewrite [e1]
  cbv
  rewrite [e2]
  cbv
  rewrite [e3]
  cbv
  rewrite [e4]
  cbv
  rewrite [h3]
  cbv
  rewrite [e1]
  cbv
  rewrite [e2]
  cbv
  rewrite [e3]
  cbv
  rewrite [e4]
  cbv
  rewrite [e0]
  cbv
  rewrite [h4]
  cbv
  rewrite [e1]
  cbv
  rewrite [e2]
  cbv
  rewrite [e3]
  cbv
  rewrite [e4]
  cbv
  rewrite [e5]
  cbv
  rewrite [e6]
  cbv
  rewrite [e7]
  cbv
  rewrite [e8]
  cbv
  rewrite [e6]
  cbv
  rewrite [e7]
  cbv
  rewrite [e8]
  cbv
  rewrite [h2]
  cbv
  rewrite [h5]
  cbv
  rewrite [e9]
  cbv
  rewrite [hr]
  cbv
theorem lp_o27_end (e1 : rest.length = t) (h1 : A.lt (.ofNat i) (.ofNat t) = false) : lpOf (envV A) 11 bd11 27 (stO27 olds many rest i) = some (.code (.exit 4) (stO27e olds many rest i)) := by
  unfold stO27 stO27e
  rw [lp_step (envV A) 11 (c0 := bd11) (lv := lvF11) rfl rfl]
  have hnle := hA.nleE; have hneq := hA.neqE
  generalize lpOf (envV A) 11 bd11 = LP
  generalize evl (envV A) = E at e1 h1 ⊢
  obtain ⟨aadd, asub, amul, arem, aquo, awr, ashr, aeq, alt, ale, aseq, aslt, acat, acut, asiz, aat, anle, aneq, afit⟩ := A
  simp only at hnle hneq
  subst hnle hneq
  try simp only at h1
  conv at e1 => lhs; cbv
  cbv
  rewrite [e1]
  cbv
  rewrite [h1]
  cbv
theorem lp_o33 {r : Option Res} (e0 : olds.length = n) (e1 : many.length = n) (e2 : Nat.ble (Nat.succ i) n = true) (e3 : 0 + i = i) (e4 : lget many i = some (.s (.int .i64 1))) (h1 : A.lt (.ofNat i) (.ofNat n) = true) (h2 : A.add .i64 (.ofNat i) 1 = .ofNat (Nat.succ i)) (h3 : A.eq 1 1 = true)
    (hr : lpOf (envV A) 11 bd11 33 (stO33 olds many (Nat.succ i)) = r) : lpOf (envV A) 11 bd11 33 (stO33 olds many i) = r := by
  unfold stO33 at hr ⊢
  rw [lp_step (envV A) 11 (c0 := bd11) (lv := lvF11) rfl rfl]
  have hnle := hA.nleE; have hneq := hA.neqE
  rw [lp_split (lpOf (envV A) 11 bd11) 33]
  generalize lpOf (envV A) 11 bd11 33 = L33 at e0 e1 e2 e3 e4 h1 h2 h3 hr ⊢
  generalize lpOf (envV A) 11 bd11 = LP
  generalize evl (envV A) = E at e0 e1 e2 e3 e4 h1 h2 h3 hr ⊢
  obtain ⟨aadd, asub, amul, arem, aquo, awr, ashr, aeq, alt, ale, aseq, aslt, acat, acut, asiz, aat, anle, aneq, afit⟩ := A
  simp only at hnle hneq
  subst hnle hneq
  try simp only at h1 h2 h3 hr
  conv at e0 => lhs; cbv
  conv at e1 => lhs; cbv
  conv at e2 => lhs; cbv
  conv at e3 => lhs; cbv
  conv at e4 => lhs; cbv
  cbv
  rewrite [e0]
  cbv
  rewrite [h1]
  cbv
  rewrite [e1]
  cbv
  rewrite [e2]
  cbv
  rewrite [e3]
  cbv
  rewrite [e4]
  cbv
  rewrite [h3]
  cbv
  rewrite [h2]
  cbv
  rewrite [hr]
  cbv
theorem lp_o33_end (e0 : olds.length = n) (h1 : A.lt (.ofNat i) (.ofNat n) = false) : lpOf (envV A) 11 bd11 33 (stO33 olds many i) = some (.code (.exit 6) (stO33e olds many i)) := by
  unfold stO33 stO33e
  rw [lp_step (envV A) 11 (c0 := bd11) (lv := lvF11) rfl rfl]
  have hnle := hA.nleE; have hneq := hA.neqE
  generalize lpOf (envV A) 11 bd11 = LP
  generalize evl (envV A) = E at e0 h1 ⊢
  obtain ⟨aadd, asub, amul, arem, aquo, awr, ashr, aeq, alt, ale, aseq, aslt, acat, acut, asiz, aat, anle, aneq, afit⟩ := A
  simp only at hnle hneq
  subst hnle hneq
  try simp only at h1
  conv at e0 => lhs; cbv
  cbv
  rewrite [e0]
  cbv
  rewrite [h1]
  cbv
section
variable (h0 : evl (envV A) (.call 44 [] []) = some (.ret (.s (.bool true)) []))
include h0
theorem eq_mo_no (h1 : evl (envV A) (.call 45 [.sl 3 xs .imm] []) = some (.ret (.tup [.sl 6 [] .full, .s (.bool false)]) [])) :
    evl (envV A) (.call 11 [.sl 2 olds .imm, .sl 3 xs .imm] []) = some (.ret (.s (.bool true)) []) := by
  rw [evl_fn (envV A) 11 _ _ (fn := Try.f11) (c := bd11) (lv := lvF11) rfl rfl rfl rfl rfl rfl]
  have hnle := hA.nleE; have hneq := hA.neqE
  generalize lpOf (envV A) 11 bd11 = LP
  generalize evl (envV A) = E at h0 h1 ⊢
  obtain ⟨aadd, asub, amul, arem, aquo, awr, ashr, aeq, alt, ale, aseq, aslt, acat, acut, asiz, aat, anle, aneq, afit⟩ := A
  simp only at hnle hneq
  subst hnle hneq
  try simp only at h0 h1
  cbv
  rewrite [h0]
  cbv
  rewrite [h1]
  cbv
variable (e0 : olds.length = n) (h1 : evl (envV A) (.call 45 [.sl 3 xs .imm] []) = some (.ret (.tup [.sl 6 ws .full, .s (.bool true)]) []))
include e0 h1
theorem eq_mo_many (h2 : A.lt 30 (.ofNat n) = true) : evl (envV A) (.call 11 [.sl 2 olds .imm, .sl 3 xs .imm] []) = some (.ret (.s (.bool true)) []) := by
  rw [evl_fn (envV A) 11 _ _ (fn := Try.f11) (c := bd11) (lv := lvF11) rfl rfl rfl rfl rfl rfl]
  have hnle := hA.nleE; have hneq := hA.neqE
  generalize lpOf (envV A) 11 bd11 = LP
  generalize evl (envV A) = E at e0 h0 h1 h2 ⊢
  obtain ⟨aadd, asub, amul, arem, aquo, awr, ashr, aeq, alt, ale, aseq, aslt, acat, acut, asiz, aat, anle, aneq, afit⟩ := A
  simp only at hnle hneq
  subst hnle hneq
  try simp only at h0 h1 h2
  conv at e0 => lhs; cbv
  cbv
  rewrite [h0]
  cbv
  rewrite [h1]
  cbv
  rewrite [e0]
  cbv
  rewrite [h2]
  cbv
theorem eq_mo (e1 : ws.length = m) (e2 : 0 + m = m) (e3 : lcut ws 0 m = ws) (e4 : Nat.ble m m = true) (e5 : take.length = m) (e6 : Nat.beq n n = true) (e7 : List.replicate n (AV.s (.int .i64 0)) = many) (e8 : kept.length = u) (e9 : gone.length = v) (ea : 0 + u = u) (eb : u + v = t) (ec : kept ++ gone = rest) (ed : Nat.beq u u = true) (ee : rest.length = t) (h2 : A.lt 30 (.ofNat n) = false) (h3 : A.eq (.ofNat m) (.ofNat m) = true) (h4 : A.fit n 8 = true)
    (h5 : evl (envV A) (.call 46 [.sl 2 olds .imm, .sl 6 ws .ro] []) = some (.ret (.agg [.sl 1 take .imm, .sl 1 kept .imm, .sl 1 gone .imm]) []))
    (h6 : lpOf (envV A) 11 bd11 10 (stO10 olds ws take kept gone many 0) = some (.code (.exit 0) (stO10e olds ws take kept gone many2 m))) (h7 : A.fit u 8 = true) (h8 : A.fit t 8 = true)
    (h9 : lpOf (envV A) 11 bd11 27 (stO27 olds many2 rest 0) = some (.code (.exit 4) (stO27e olds many3 rest j)))
    (ha : lpOf (envV A) 11 bd11 33 (stO33 olds many3 0) = some (.code (.exit 6) (stO33e olds many3 k))) :
    evl (envV A) (.call 11 [.sl 2 olds .imm, .sl 3 xs .imm] []) = some (.ret (.s (.bool true)) []) := by
  unfold stO10 stO10e at h6
  unfold stO27 stO27e at h9
  unfold stO33 stO33e at ha
  simp only [show Int.ofNat 0 = 0 from rfl] at h6 h9 ha
  rw [evl_fn (envV A) 11 _ _ (fn := Try.f11) (c := bd11) (lv := lvF11) rfl rfl rfl rfl rfl rfl]
  have hnle := hA.nleE; have hneq := hA.neqE
  rw [lp_split (lpOf (envV A) 11 bd11) 10]
  generalize lpOf (envV A) 11 bd11 10 = L10 at e0 e1 e2 e3 e4 e5 e6 e7 e8 e9 ea eb ec ed ee h0 h1 h2 h3 h4 h5 h6 h7 h8 h9 ha ⊢
  rw [lp_split (lpOf (envV A) 11 bd11) 27]
  generalize lpOf (envV A) 11 bd11 27 = L27 at e0 e1 e2 e3 e4 e5 e6 e7 e8 e9 ea eb ec ed ee h0 h1 h2 h3 h4 h5 h6 h7 h8 h9 ha ⊢
  rw [lp_split (lpOf (envV A) 11 bd11) 33]
  generalize lpOf (envV A) 11 bd11 33 = L33 at e0 e1 e2 e3 e4 e5 e6 e7 e8 e9 ea eb ec ed ee h0 h1 h2 h3 h4 h5 h6 h7 h8 h9 ha ⊢
  generalize lpOf (envV A) 11 bd11 = LP
  generalize evl (envV A) = E at e0 e1 e2 e3 e4 e5 e6 e7 e8 e9 ea eb ec ed ee h0 h1 h2 h3 h4 h5 h6 h7 h8 h9 ha ⊢
  obtain ⟨aadd, asub, amul, arem, aquo, awr, ashr, aeq, alt, ale, aseq, aslt, acat, acut, asiz, aat, anle, aneq, afit⟩ := A
  simp only at hnle hneq
  subst hnle hneq
  try simp only at h0 h1 h2 h3 h4 h5 h6 h7 h8 h9 ha
  conv at e0 => lhs; cbv
  conv at e1 => lhs; cbv
  conv at e2 => lhs; cbv
  conv at e3 => lhs; cbv
  conv at e4 => lhs; cbv
  conv at e5 => lhs; cbv
  conv at e6 => lhs; cbv
  conv at e7 => lhs; cbv
  conv at e8 => lhs; cbv
  conv at e9 => lhs; cbv
  conv at ea => lhs; cbv
  conv at eb => lhs; cbv
  conv at ec => lhs; cbv
  conv at ed => lhs; cbv
  conv at ee => lhs; cbv
  cbv
  rewrite [h0]
  cbv
  rewrite [h1]
  cbv
  rewrite [e0]
  cbv
  rewrite [h2]
  cbv
  rewrite [e1]
  cbv
  rewrite [e2]
  cbv
  rewrite [e3]
  cbv
  rewrite [e4]
  cbv
  rewrite [h5]
  cbv
  rewrite [e1]
  cbv
  rewrite [e5]
  cbv
  rewrite [h3]
  cbv
  rewrite [e0]
  cbv
  rewrite [e6]
  cbv
  rewrite [e7]
  cbv
  rewrite [h4]
  cbv
  rewrite [h6]
  cbv
  rewrite [e8]
  cbv
  rewrite [ea]
  cbv
  rewrite [h7]
  cbv
  rewrite [e8]
  cbv
  rewrite [e9]
  cbv
  rewrite [eb]
  cbv
  rewrite [ec]
  cbv
  rewrite [h8]
  cbv
  rewrite [h9]
  cbv
  rewrite [ha]
  cbv
end
end
end Go.Va
namespace Go.Va
open Go.Proofs
set_option maxRecDepth 100000
/-- what is counted: nothing yet of what p tells, else one -/
def mkC (n : Nat) (p : Nat → Bool) : List AV := (List.range n).map fun k => .s (.int .i64 (bif p k then 0 else 1))
theorem mkC_len (n : Nat) (p : Nat → Bool) : (mkC n p).length = n := by simp [mkC]
theorem mkC_get {n k : Nat} (p : Nat → Bool) (h : k < n) : lget (mkC n p) k = some (.s (.int .i64 (bif p k then 0 else 1))) := by
  rw [lget_get]
  simp [mkC, h]
theorem mkC_set {n k : Nat} {p p2 : Nat → Bool} (h : ∀ j, p2 j = if j = k then false else p j) : lset (mkC n p) k (.s (.int .i64 1)) = mkC n p2 := by
  rw [lset_eq]
  apply List.ext_getElem?
  intro j
  rw [List.getElem?_set]
  by_cases hj : j < n
  · by_cases q : k = j
    · subst q
      rw [if_pos rfl, if_pos (by rw [mkC_len]; exact hj)]
      simp only [mkC, List.getElem?_map, List.getElem?_range hj, Option.map_some]
      rw [h k, if_pos rfl]
      rfl
    · rw [if_neg q]
      simp only [mkC, List.getElem?_map, List.getElem?_range hj, Option.map_some]
      rw [h j, if_neg (fun e => q e.symm)]
  · rw [List.getElem?_eq_none (l := mkC n p2) (by rw [mkC_len]; omega)]
    split
    · rw [if_neg (by rw [mkC_len]; omega)]
    · exact List.getElem?_eq_none (by rw [mkC_len]; omega)
theorem mkC_ext {n : Nat} {p p2 : Nat → Bool} (h : ∀ j, p j = p2 j) : mkC n p = mkC n p2 := by
  rw [show p = p2 from funext h]
theorem mkC_zero (n : Nat) : List.replicate n (AV.s (.int .i64 0)) = mkC n (fun k => (List.range n).contains k) := by
  apply List.ext_getElem
  · simp [mkC_len]
  · intro i h1 h2
    have : i < n := by simpa using h1
    simp [mkC, this]
theorem ckL_app : ∀ (a b : List InsT) (c : CkS), ckL (a ++ b) c = 0 → ∃ c2, ckL b c2 = 0
  | [], b, c, h => ⟨c, h⟩
  | x :: a, b, c, h => by
    obtain ⟨c2, -, h2⟩ := ckL_cons h
    exact ckL_app a b _ h2
theorem flW_head (w : WT) : ∃ x r, flW w = x :: r ∧ tellsB x.1 = false ∧ x.1 ≠ 2 := by
  rcases w with ⟨k, tag, key, text, ats, ks⟩
  unfold flW
  split
  · exact ⟨_, _, rfl, rfl, by simp⟩
  · split
    · exact ⟨_, _, rfl, rfl, by simp⟩
    · split
      · exact ⟨_, _, rfl, rfl, by simp⟩
      · split
        · exact ⟨_, _, rfl, rfl, by simp⟩
        · exact ⟨_, _, rfl, rfl, by simp⟩
theorem flWs_app : ∀ a b : List WT, flWs (a ++ b) = flWs a ++ flWs b
  | [], b => rfl
  | t :: a, b => by rw [List.cons_append, flWs, flWs, flWs_app a b, List.append_assoc]
/-- an All is the last one -/
theorem all_last {ws done rest : List WT} {w : WT} (h : ckL (flWs ws) ck0 = 0) (hw : ws = done ++ w :: rest) (h4 : kdW w = 4) : rest = [] := by
  cases rest with
  | nil => rfl
  | cons w2 rest =>
    exfalso
    rw [hw, flWs_app] at h
    obtain ⟨c, hc⟩ := ckL_app _ _ _ h
    rcases w with ⟨k, tag, key, text, ats, ks⟩
    simp only [kdW] at h4
    subst h4
    obtain ⟨x, r, h1, h2, h3⟩ := flW_head w2
    rw [flWs, flWs, h1, show flW (.node 4 tag key text ats ks) = [(7, ⟨#[]⟩, ⟨#[]⟩)] by simp [flW]] at hc
    obtain ⟨c2, g1, g2⟩ := ckL_cons hc
    obtain ⟨c3, g3, -⟩ := ckL_cons (by simpa using g2)
    have hm := ckOne_may g1
    unfold ckOne at g1
    rw [hm] at g1
    simp only [Bool.not_true, Bool.false_eq_true, if_false, show tellsB 7 = false from rfl, show ¬ (7 : Int) = 2 by omega] at g1
    have hm3 := ckOne_may g3
    unfold ckOne at g3
    rw [hm3, h2] at g3
    simp only [Bool.not_true, Bool.false_eq_true, if_false, h3] at g3
    unfold ckStands at g1
    split at g1
    · simp at g1
    · split at g1
      · simp at g1
      · simp only [show elemB 7 = false from rfl, Bool.false_and, Bool.false_eq_true, if_false, show decide ((7 : Int) = 1) = false from rfl, Prod.mk.injEq, true_and] at g1
        subst g1
        unfold ckStands at g3
        simp at g3
theorem selP_none {olds : List OlT} {tag key text : ByteArray} {ats : List AtT} {ks : List WT} (hk : realAr.seq key ⟨#[]⟩ = false) : ∀ (ls : List Nat) (f : Bool), selP olds (.node 1 tag key text ats ks) ls f = none → ∀ k ∈ ls, (realAr.seq (olds.getD k (⟨#[]⟩, ⟨#[]⟩)).1 tag && realAr.seq (olds.getD k (⟨#[]⟩, ⟨#[]⟩)).2 key) = false
  | [], _, _, k, hk2 => by simp at hk2
  | k0 :: ls, f, h, k, hk2 => by
    unfold selP at h
    split at h
    · cases h
    · rename_i hn
      have ht : tkP (.node 1 tag key text ats ks) (olds.getD k0 (⟨#[]⟩, ⟨#[]⟩)) f = (realAr.seq (olds.getD k0 (⟨#[]⟩, ⟨#[]⟩)).1 tag && realAr.seq (olds.getD k0 (⟨#[]⟩, ⟨#[]⟩)).2 key) := by
        simp [tkP, hk]
      rw [ht] at hn
      have h2 : selP olds (.node 1 tag key text ats ks) ls false = none := by
        cases hs : selP olds (.node 1 tag key text ats ks) ls false with
        | none => rfl
        | some q =>
          obtain ⟨a, b, c⟩ := q
          rw [hs] at h
          cases h
      rcases List.mem_cons.1 hk2 with rfl | hk2
      · simpa using hn
      · exact selP_none hk ls false h2 k hk2
theorem selP_tk {olds : List OlT} {w : WT} : ∀ (ls : List Nat) (f : Bool) {pre : List Nat} {v : Nat} {post : List Nat}, selP olds w ls f = some (pre, v, post) → ∃ f2, tkP w (olds.getD v (⟨#[]⟩, ⟨#[]⟩)) f2 = true
  | [], _, _, _, _, h => by cases h
  | k :: ls, f, pre, v, post, h => by
    unfold selP at h
    split at h
    · rename_i ht
      cases h
      exact ⟨f, ht⟩
    · split at h
      · rename_i h2
        cases h
        exact selP_tk ls false h2
      · cases h
theorem mRun_pre (olds : List OlT) : ∀ (rest : List WT) (s : MSt), ∃ T, (mRun olds rest s).2.1 = s.2.1 ++ T
  | [], s => ⟨[], by simp [mRun]⟩
  | w :: rest, s => by
    obtain ⟨T, h⟩ := mRun_pre olds rest (mStep olds s w)
    have hs : ∃ z, (mStep olds s w).2.1 = s.2.1 ++ [z] := by
      unfold mStep
      split
      · exact ⟨_, rfl⟩
      · split <;> exact ⟨_, rfl⟩
    obtain ⟨z, hz⟩ := hs
    refine ⟨z :: T, ?_⟩
    show (mRun olds rest (mStep olds s w)).2.1 = _
    rw [h, hz, List.append_assoc, List.singleton_append]
section
variable (olds : List OlT) (ws : List WT) (hn : olds.length ≤ 900) (hw : ws.length ≤ 900)
include hn hw
theorem lp_o17I (take kept gone : List AV) (p : Nat → Bool) (i : Nat) (hi : i < ws.length) (z kd : Int) (tag key text : ByteArray) (ats : List AtT) (ks : List WT) (hwi : ws[i] = .node kd tag key text ats ks) (hp : ∀ k, k < olds.length → p k = true → (realAr.seq (olds.getD k (⟨#[]⟩, ⟨#[]⟩)).1 tag && realAr.seq (olds.getD k (⟨#[]⟩, ⟨#[]⟩)).2 key) = false) : ∀ (m k : Nat), m + k = olds.length →
    lpOf (envV realAr) 11 bd11 17 (stO17 (olds.map olA) (wtsA ws) take kept gone (mkC olds.length p) i z k) = some (.code (.exit 2) (stO17e (olds.map olA) (wtsA ws) take kept gone (mkC olds.length p) i z olds.length))
  | 0, k, h => by
    have : k = olds.length := by omega
    subst this
    exact lp_o17_end realAr realAr_ok (olds := olds.map olA) (ws := wtsA ws) (take := take) (kept := kept) (gone := gone) (many := mkC olds.length p) (n := olds.length) (i := i) (k := olds.length) (z := z) (e0 := mlen olA olds) (h1 := nlt_f (Nat.le_refl _))
  | m + 1, k, h => by
    have hk : k < olds.length := by omega
    have hg := wts_get hi
    rw [hwi] at hg
    unfold wtA at hg
    have hlt : realAr.lt (.ofNat k) (.ofNat olds.length) = true := nlt_t hk
    have hadd : realAr.add .i64 (.ofNat k) 1 = .ofNat (Nat.succ k) := ninc (by omega)
    have hgc := mkC_get (n := olds.length) p hk
    have next := lp_o17I take kept gone p i hi z kd tag key text ats ks hwi hp m (k + 1) (by omega)
    cases hpk : p k with
    | false =>
      rw [hpk] at hgc
      exact lp_o17_c realAr realAr_ok (olds := olds.map olA) (ws := wtsA ws) (ats := ats.map atA) (ks := wtsA ks) (take := take) (kept := kept) (gone := gone) (many := mkC olds.length p) (n := olds.length) (m := ws.length) (i := i) (k := k) (kd := kd) (c := 1) (z := z) (tag := tag) (key := key) (text := text) (e0 := mlen olA olds) (e1 := wts_len ws) (e2 := hg) (e3 := hble hi) (e4 := Nat.zero_add _) (e5 := mkC_len _ _) (e6 := hble hk) (e7 := Nat.zero_add _) (e8 := hgc) (h1 := hlt) (h2 := hadd) (h3 := heq_f (by decide)) (hr := next)
    | true =>
      rw [hpk] at hgc
      have hs := hp k hk hpk
      cases h4 : realAr.seq (olds.getD k (⟨#[]⟩, ⟨#[]⟩)).1 tag with
      | false => exact lp_o17_t realAr realAr_ok (olds := olds.map olA) (ws := wtsA ws) (ats := ats.map atA) (ks := wtsA ks) (take := take) (kept := kept) (gone := gone) (many := mkC olds.length p) (n := olds.length) (m := ws.length) (i := i) (k := k) (kd := kd) (c := 0) (z := z) (tag := tag) (key := key) (text := text) (a := (olds.getD k (⟨#[]⟩, ⟨#[]⟩)).1) (b := (olds.getD k (⟨#[]⟩, ⟨#[]⟩)).2) (e0 := mlen olA olds) (e1 := wts_len ws) (e2 := hg) (e3 := hble hi) (e4 := Nat.zero_add _) (e5 := mkC_len _ _) (e6 := hble hk) (e7 := Nat.zero_add _) (e8 := hgc) (e9 := old_get hk) (h1 := hlt) (h2 := hadd) (h3 := heq_t rfl) (h4 := h4) (hr := next)
      | true =>
        rw [h4, Bool.true_and] at hs
        exact lp_o17_k realAr realAr_ok (olds := olds.map olA) (ws := wtsA ws) (ats := ats.map atA) (ks := wtsA ks) (take := take) (kept := kept) (gone := gone) (many := mkC olds.length p) (n := olds.length) (m := ws.length) (i := i) (k := k) (kd := kd) (c := 0) (z := z) (tag := tag) (key := key) (text := text) (a := (olds.getD k (⟨#[]⟩, ⟨#[]⟩)).1) (b := (olds.getD k (⟨#[]⟩, ⟨#[]⟩)).2) (e0 := mlen olA olds) (e1 := wts_len ws) (e2 := hg) (e3 := hble hi) (e4 := Nat.zero_add _) (e5 := mkC_len _ _) (e6 := hble hk) (e7 := Nat.zero_add _) (e8 := hgc) (e9 := old_get hk) (h1 := hlt) (h2 := hadd) (h3 := heq_t rfl) (h4 := h4) (h5 := hs) (hr := next)
theorem lp_o10I (TF : List Int) (K G : List AV) (hlast : ∀ done w rest, ws = done ++ w :: rest → kdW w = 4 → rest = []) : ∀ (rest done : List WT) (s : MSt), ws = done ++ rest → (mRun olds rest s).2.1 = TF → s.2.1.length = done.length → (s.2.2 ++ s.1).Nodup → (∀ k ∈ s.2.2 ++ s.1, k < olds.length) → (rest ≠ [] → s.2.2 = []) →
    lpOf (envV realAr) 11 bd11 10 (stO10 (olds.map olA) (wtsA ws) (TF.map zA) K G (mkC olds.length fun k => (s.2.2 ++ s.1).contains k) done.length) = some (.code (.exit 0) (stO10e (olds.map olA) (wtsA ws) (TF.map zA) K G (mkC olds.length fun k => ((mRun olds rest s).2.2 ++ (mRun olds rest s).1).contains k) ws.length)) ∧ ((mRun olds rest s).2.2 ++ (mRun olds rest s).1).Nodup ∧ ∀ k ∈ (mRun olds rest s).2.2 ++ (mRun olds rest s).1, k < olds.length
  | [], done, s, h, hT, ht, hd, hb, hkp => by
    have : ws.length = done.length := by rw [h, List.append_nil]
    rw [this]
    exact ⟨lp_o10_end realAr realAr_ok (olds := olds.map olA) (ws := wtsA ws) (take := TF.map zA) (kept := K) (gone := G) (many := mkC olds.length fun k => (s.2.2 ++ s.1).contains k) (m := done.length) (i := done.length) (e1 := by rw [wts_len, this]) (h1 := nlt_f (Nat.le_refl _)), hd, hb⟩
  | w :: rest, done, s, h, hT, ht, hd, hb, hkp => by
    have hi : done.length < ws.length := by rw [h]; simp
    have hwi : ws[done.length] = w := by simp [h]
    have hg := wts_get hi
    rw [hwi] at hg
    have hlt : realAr.lt (.ofNat done.length) (.ofNat ws.length) = true := nlt_t hi
    have hadd : realAr.add .i64 (.ofNat done.length) 1 = .ofNat (Nat.succ done.length) := ninc (by omega)
    obtain ⟨left, take, kept⟩ := s
    simp only at ht hd hb hkp ⊢
    have hk0 : kept = [] := hkp (by simp)
    subst hk0
    simp only [List.nil_append] at hd hb ⊢
    have hrun : mRun olds (w :: rest) (left, take, []) = mRun olds rest (mStep olds (left, take, []) w) := rfl
    rw [hrun] at hT ⊢
    have hTl : TF.length = ws.length := by
      have := (mRun_len .ro (.inl rfl) olds rest (mStep olds (left, take, []) w)).1
      rw [hT] at this
      obtain ⟨T, hT2⟩ := mRun_pre olds [w] (left, take, [])
      have h1 : (mStep olds (left, take, []) w).2.1.length = take.length + 1 := (mRun_len .ro (.inl rfl) olds [w] (left, take, [])).1
      rw [this, h1, ht, h]
      simp
      omega
    obtain ⟨T, hT2⟩ := mRun_pre olds rest (mStep olds (left, take, []) w)
    rw [hT] at hT2
    have hgt : ∀ z, (mStep olds (left, take, []) w).2.1 = take ++ [z] → lget (TF.map zA) done.length = some (zA z) := fun z hz => by
      refine mget' zA TF ?_
      rw [hT2, hz, ← ht, List.append_assoc, List.singleton_append, List.getElem?_append_right (Nat.le_refl _), Nat.sub_self]
      rfl
    have ih := fun s2 => lp_o10I TF K G hlast rest (done ++ [w]) s2 (by rw [h]; simp)
    rw [List.length_append, List.length_singleton] at ih
    have hal : kdW w = 4 → rest = [] := hlast done w rest h
    generalize hst : mStep olds (left, take, []) w = s2 at hT hgt ih ⊢
    unfold mStep at hst
    simp only at hst
    rcases w with ⟨kd, tag, key, text, ats, ks⟩
    unfold wtA at hg
    cases hsel : selP olds (.node kd tag key text ats ks) left true with
    | none =>
      rw [hsel] at hst
      have hs2 : s2.2.1 = take ++ [-1] ∧ (∀ k, (s2.2.2 ++ s2.1).contains k = left.contains k) ∧ (s2.2.2 ++ s2.1).Nodup ∧ (∀ k ∈ s2.2.2 ++ s2.1, k < olds.length) ∧ (rest ≠ [] → s2.2.2 = []) := by
        simp only at hst
        split at hst
        · rename_i h4
          subst hst
          refine ⟨rfl, fun k => by simp, by simpa using hd, by simpa using hb, fun hr => absurd (hal h4) hr⟩
        · subst hst
          exact ⟨rfl, fun k => by simp, by simpa using hd, by simpa using hb, fun _ => rfl⟩
      obtain ⟨q1, q2, q3, q4, q5⟩ := hs2
      have hgz := hgt (-1) q1
      obtain ⟨i1, i2⟩ := ih s2 hT (by rw [q1]; simp [ht]) q3 q4 q5
      rw [mkC_ext q2] at i1
      refine ⟨?_, i2⟩
      have hmn : realAr.le (.ofNat olds.length) (-1) = false := hle_f (by show (-1 : Int) < (olds.length : Int); omega)
      by_cases h1 : kd = 1
      · cases hk : realAr.seq key ⟨#[]⟩ with
        | true => exact lp_o10_n2 realAr realAr_ok (olds := olds.map olA) (ws := wtsA ws) (ats := ats.map atA) (ks := wtsA ks) (take := TF.map zA) (kept := K) (gone := G) (many := mkC olds.length fun k => left.contains k) (n := olds.length) (m := ws.length) (i := done.length) (t := ws.length) (kd := kd) (z := -1) (tag := tag) (key := key) (text := text) (e0 := mlen olA olds) (e1 := wts_len ws) (e2 := hg) (e3 := hble hi) (e4 := Nat.zero_add _) (e5 := by rw [List.length_map, hTl]) (e6 := hble hi) (e7 := hgz) (h1 := hlt) (h2 := hadd) (h3 := hmn) (h4 := hlt_f (by decide)) (h5 := hlt_t (by decide)) (h6 := heq_t h1) (h7 := hk) (hr := i1)
        | false =>
          have hno := selP_none (olds := olds) (tag := tag) (text := text) (ats := ats) (ks := ks) hk left true (by rw [← h1]; exact hsel)
          have h17 := lp_o17I olds ws hn hw (TF.map zA) K G (fun k => left.contains k) done.length hi (-1) kd tag key text ats ks hwi (fun k _ hp => hno k (by simpa using hp)) olds.length 0 (by omega)
          exact lp_o10_n3 realAr realAr_ok (olds := olds.map olA) (ws := wtsA ws) (ats := ats.map atA) (ks := wtsA ks) (take := TF.map zA) (kept := K) (gone := G) (many := mkC olds.length fun k => left.contains k) (n := olds.length) (m := ws.length) (i := done.length) (k := olds.length) (t := ws.length) (kd := kd) (z := -1) (tag := tag) (key := key) (text := text) (e0 := mlen olA olds) (e1 := wts_len ws) (e2 := hg) (e3 := hble hi) (e4 := Nat.zero_add _) (e5 := by rw [List.length_map, hTl]) (e6 := hble hi) (e7 := hgz) (h1 := hlt) (h2 := hadd) (h3 := hmn) (h4 := hlt_f (by decide)) (h5 := hlt_t (by decide)) (h6 := heq_t h1) (h7 := hk) (h8 := h17) (hr := i1)
      · exact lp_o10_n1 realAr realAr_ok (olds := olds.map olA) (ws := wtsA ws) (ats := ats.map atA) (ks := wtsA ks) (take := TF.map zA) (kept := K) (gone := G) (many := mkC olds.length fun k => left.contains k) (n := olds.length) (m := ws.length) (i := done.length) (t := ws.length) (kd := kd) (z := -1) (tag := tag) (key := key) (text := text) (e0 := mlen olA olds) (e1 := wts_len ws) (e2 := hg) (e3 := hble hi) (e4 := Nat.zero_add _) (e5 := by rw [List.length_map, hTl]) (e6 := hble hi) (e7 := hgz) (h1 := hlt) (h2 := hadd) (h3 := hmn) (h4 := hlt_f (by decide)) (h5 := hlt_t (by decide)) (h6 := heq_f h1) (hr := i1)
    | some q =>
      obtain ⟨pre, v, post⟩ := q
      rw [hsel] at hst
      simp only at hst
      subst hst
      have hle := selP_eq hsel
      have hv : v < olds.length := hb v (by rw [hle]; simp)
      obtain ⟨f2, htk⟩ := selP_tk left true hsel
      have hgz := hgt (v : Int) rfl
      have hd2 := hd
      rw [hle] at hd2
      have hnv : v ∉ pre ++ post := by
        rw [List.nodup_append] at hd2
        obtain ⟨-, g2, g3⟩ := hd2
        rw [List.nodup_cons] at g2
        intro hm
        rcases List.mem_append.1 hm with r | r
        · exact g3 v r v (by simp) rfl
        · exact g2.1 r
      have hsub : (pre ++ post).Sublist left := by
        rw [hle]
        exact List.Sublist.append (List.Sublist.refl _) (List.sublist_cons_self _ _)
      obtain ⟨i1, i2⟩ := ih (pre ++ post, take ++ [(v : Int)], []) hT (by simp [ht]) (by simpa using hsub.nodup hd) (fun k hk => hb k (hsub.subset (by simpa using hk))) (fun _ => rfl)
      refine ⟨?_, i2⟩
      simp only [List.nil_append] at i1
      have hset : lset (mkC olds.length fun k => left.contains k) v (.s (.int .i64 1)) = mkC olds.length fun k => (pre ++ post).contains k := mkC_set fun j => by
        by_cases q : j = v
        · rw [if_pos q, q]
          cases e : (pre ++ post).contains v with
          | false => rfl
          | true => exact absurd (by simpa using e) hnv
        · rw [if_neg q, hle]
          apply Bool.eq_iff_iff.2
          simp [q]
      have hgc := mkC_get (n := olds.length) (fun k => left.contains k) hv
      rw [show left.contains v = true by rw [hle]; simp] at hgc
      have hmn : realAr.le (.ofNat olds.length) (.ofNat v) = false := hle_f (by show (v : Int) < (olds.length : Int); omega)
      have hm1 : realAr.lt (.ofNat v) (-1) = false := hlt_f (by show (-1 : Int) ≤ (v : Int); omega)
      have hm0 : realAr.lt (.ofNat v) 0 = false := hlt_f (Int.natCast_nonneg v)
      have ha1 : realAr.add .i64 0 1 = 1 := Go.Va.hadd (by omega) (by omega)
      have h4 : kd ≠ 4 := fun e => by rw [selP_4 (w := .node kd tag key text ats ks) e] at hsel; cases hsel
      rw [tkP_node] at htk
      by_cases h1 : kd = 1
      · rw [if_pos h1, Bool.and_eq_true, Bool.and_eq_true] at htk
        obtain ⟨t1, t2, -⟩ := htk
        cases hk : realAr.seq key ⟨#[]⟩ with
        | true => exact lp_o10_h1 realAr realAr_ok (olds := olds.map olA) (ws := wtsA ws) (ats := ats.map atA) (ks := wtsA ks) (take := TF.map zA) (kept := K) (gone := G) (many := mkC olds.length fun k => left.contains k) (many2 := mkC olds.length fun k => (pre ++ post).contains k) (n := olds.length) (m := ws.length) (i := done.length) (t := ws.length) (v := v) (kd := kd) (c := 0) (c2 := 1) (tag := tag) (key := key) (text := text) (a := (olds.getD v (⟨#[]⟩, ⟨#[]⟩)).1) (b := (olds.getD v (⟨#[]⟩, ⟨#[]⟩)).2) (e0 := mlen olA olds) (e1 := wts_len ws) (e2 := hg) (e3 := hble hi) (e4 := Nat.zero_add _) (e5 := by rw [List.length_map, hTl]) (e6 := hble hi) (e7 := hgz) (e8 := mkC_len _ _) (e9 := hble hv) (ea := Nat.zero_add _) (eb := hgc) (ec := hset) (ed := old_get hv) (h1 := hlt) (h2 := hadd) (h3 := hmn) (h4 := hm1) (h5 := hm0) (h6 := ha1) (h7 := heq_t h1) (h8 := heq_f (by omega)) (h9 := heq_f h4) (ha := t1) (hb := t2) (hc := hk) (hr := i1)
        | false => exact lp_o10_h2 realAr realAr_ok (olds := olds.map olA) (ws := wtsA ws) (ats := ats.map atA) (ks := wtsA ks) (take := TF.map zA) (kept := K) (gone := G) (many := mkC olds.length fun k => left.contains k) (many2 := mkC olds.length fun k => (pre ++ post).contains k) (n := olds.length) (m := ws.length) (i := done.length) (t := ws.length) (v := v) (kd := kd) (c := 0) (c2 := 1) (tag := tag) (key := key) (text := text) (a := (olds.getD v (⟨#[]⟩, ⟨#[]⟩)).1) (b := (olds.getD v (⟨#[]⟩, ⟨#[]⟩)).2) (e0 := mlen olA olds) (e1 := wts_len ws) (e2 := hg) (e3 := hble hi) (e4 := Nat.zero_add _) (e5 := by rw [List.length_map, hTl]) (e6 := hble hi) (e7 := hgz) (e8 := mkC_len _ _) (e9 := hble hv) (ea := Nat.zero_add _) (eb := hgc) (ec := hset) (ed := old_get hv) (h1 := hlt) (h2 := hadd) (h3 := hmn) (h4 := hm1) (h5 := hm0) (h6 := ha1) (h7 := heq_t h1) (h8 := heq_f (by omega)) (h9 := heq_f h4) (ha := t1) (hb := t2) (hc := hk) (hr := i1)
      · rw [if_neg h1] at htk
        by_cases h2 : kd = 2
        · rw [if_pos h2, Bool.and_eq_true] at htk
          exact lp_o10_h3 realAr realAr_ok (olds := olds.map olA) (ws := wtsA ws) (ats := ats.map atA) (ks := wtsA ks) (take := TF.map zA) (kept := K) (gone := G) (many := mkC olds.length fun k => left.contains k) (many2 := mkC olds.length fun k => (pre ++ post).contains k) (n := olds.length) (m := ws.length) (i := done.length) (t := ws.length) (v := v) (kd := kd) (c := 0) (c2 := 1) (tag := tag) (key := key) (text := text) (a := (olds.getD v (⟨#[]⟩, ⟨#[]⟩)).1) (b := (olds.getD v (⟨#[]⟩, ⟨#[]⟩)).2) (e0 := mlen olA olds) (e1 := wts_len ws) (e2 := hg) (e3 := hble hi) (e4 := Nat.zero_add _) (e5 := by rw [List.length_map, hTl]) (e6 := hble hi) (e7 := hgz) (e8 := mkC_len _ _) (e9 := hble hv) (ea := Nat.zero_add _) (eb := hgc) (ec := hset) (ed := old_get hv) (h1 := hlt) (h2 := hadd) (h3 := hmn) (h4 := hm1) (h5 := hm0) (h6 := ha1) (h7 := heq_f h1) (h8 := heq_t h2) (h9 := heq_f h4) (ha := htk.2) (hr := i1)
        · exact lp_o10_h4 realAr realAr_ok (olds := olds.map olA) (ws := wtsA ws) (ats := ats.map atA) (ks := wtsA ks) (take := TF.map zA) (kept := K) (gone := G) (many := mkC olds.length fun k => left.contains k) (many2 := mkC olds.length fun k => (pre ++ post).contains k) (n := olds.length) (m := ws.length) (i := done.length) (t := ws.length) (v := v) (kd := kd) (c := 0) (c2 := 1) (tag := tag) (key := key) (text := text) (a := (olds.getD v (⟨#[]⟩, ⟨#[]⟩)).1) (b := (olds.getD v (⟨#[]⟩, ⟨#[]⟩)).2) (e0 := mlen olA olds) (e1 := wts_len ws) (e2 := hg) (e3 := hble hi) (e4 := Nat.zero_add _) (e5 := by rw [List.length_map, hTl]) (e6 := hble hi) (e7 := hgz) (e8 := mkC_len _ _) (e9 := hble hv) (ea := Nat.zero_add _) (eb := hgc) (ec := hset) (ed := old_get hv) (h1 := hlt) (h2 := hadd) (h3 := hmn) (h4 := hm1) (h5 := hm0) (h6 := ha1) (h7 := heq_f h1) (h8 := heq_f h2) (h9 := heq_f h4) (hr := i1)
omit hw in
theorem lp_o27I (R : List Nat) (hR : R.Nodup) (hb : ∀ k ∈ R, k < olds.length) (hl : R.length ≤ 2000) : ∀ (m i : Nat), m + i = R.length →
    lpOf (envV realAr) 11 bd11 27 (stO27 (olds.map olA) (mkC olds.length fun k => (R.drop i).contains k) (R.map natA) i) = some (.code (.exit 4) (stO27e (olds.map olA) (mkC olds.length fun _ => false) (R.map natA) R.length))
  | 0, i, h => by
    have : i = R.length := by omega
    subst this
    rw [List.drop_length]
    exact lp_o27_end realAr realAr_ok (olds := olds.map olA) (many := mkC olds.length fun _ => false) (rest := R.map natA) (t := R.length) (i := R.length) (e1 := mlen natA R) (h1 := nlt_f (Nat.le_refl _))
  | m + 1, i, h => by
    have hi : i < R.length := by omega
    have hg := mget natA R hi
    have hv := hb R[i] (List.getElem_mem hi)
    have hlt : realAr.lt (.ofNat i) (.ofNat R.length) = true := nlt_t hi
    have hadd : realAr.add .i64 (.ofNat i) 1 = .ofNat (Nat.succ i) := ninc (by omega)
    have next := lp_o27I R hR hb hl m (i + 1) (by omega)
    have hdr := List.drop_eq_getElem_cons hi
    have hnd : (R.drop i).Nodup := (List.drop_sublist i R).nodup hR
    rw [hdr, List.nodup_cons] at hnd
    have hgc := mkC_get (n := olds.length) (fun k => (R.drop i).contains k) hv
    rw [show (R.drop i).contains R[i] = true by rw [hdr, List.contains_cons, beq_self_eq_true, Bool.true_or]] at hgc
    have hset : lset (mkC olds.length fun k => (R.drop i).contains k) R[i] (.s (.int .i64 1)) = mkC olds.length fun k => (R.drop (i + 1)).contains k := mkC_set fun j => by
      by_cases q : j = R[i]
      · rw [if_pos q, q]
        cases e : (R.drop (i + 1)).contains R[i] with
        | false => rfl
        | true => exact absurd (by simpa using e) hnd.1
      · rw [if_neg q, hdr, List.contains_cons]
        have : (j == R[i]) = false := by simpa using q
        rw [this, Bool.false_or]
    exact lp_o27 realAr realAr_ok (olds := olds.map olA) (many := mkC olds.length fun k => (R.drop i).contains k) (many2 := mkC olds.length fun k => (R.drop (i + 1)).contains k) (rest := R.map natA) (n := olds.length) (i := i) (v := R[i]) (t := R.length) (c := 0) (c2 := 1) (e0 := mlen olA olds) (e1 := mlen natA R) (e2 := hble hi) (e3 := Nat.zero_add _) (e4 := hg) (e5 := mkC_len _ _) (e6 := hble hv) (e7 := Nat.zero_add _) (e8 := hgc) (e9 := hset) (h1 := hlt) (h2 := hadd) (h3 := hlt_f (Int.natCast_nonneg _)) (h4 := hle_f (by show (R[i] : Int) < (olds.length : Int); omega)) (h5 := Go.Va.hadd (by omega) (by omega)) (hr := next)
omit hw in
theorem lp_o33I : ∀ (m i : Nat), m + i = olds.length →
    lpOf (envV realAr) 11 bd11 33 (stO33 (olds.map olA) (mkC olds.length fun _ => false) i) = some (.code (.exit 6) (stO33e (olds.map olA) (mkC olds.length fun _ => false) olds.length))
  | 0, i, h => by
    have : i = olds.length := by omega
    subst this
    exact lp_o33_end realAr realAr_ok (olds := olds.map olA) (many := mkC olds.length fun _ => false) (n := olds.length) (i := olds.length) (e0 := mlen olA olds) (h1 := nlt_f (Nat.le_refl _))
  | m + 1, i, h => by
    have hi : i < olds.length := by omega
    have hlt : realAr.lt (.ofNat i) (.ofNat olds.length) = true := nlt_t hi
    have hadd : realAr.add .i64 (.ofNat i) 1 = .ofNat (Nat.succ i) := ninc (by omega)
    exact lp_o33 realAr realAr_ok (olds := olds.map olA) (many := mkC olds.length fun _ => false) (n := olds.length) (i := i) (e0 := mlen olA olds) (e1 := mkC_len _ _) (e2 := hble hi) (e3 := Nat.zero_add _) (e4 := mkC_get _ hi) (h1 := hlt) (h2 := hadd) (h3 := heq_t rfl) (hr := lp_o33I m (i + 1) (by omega))
end
theorem matchOnce_law (olds : List OlT) (l : List InsT) (hl : l.length ≤ 9223372036854775807) : evl (envV realAr) (.call 11 [.sl 2 (olds.map olA) .imm, .sl 3 (l.map insA) .imm] []) = some (.ret (.s (.bool true)) []) := by
  rcases s_few l hl with h | ⟨h, hf, h150⟩
  · exact eq_mo_no realAr realAr_ok (olds := olds.map olA) (xs := l.map insA) (h0 := s_law16_up) (h1 := eq_wn_few realAr realAr_ok (xs := l.map insA) (h1 := h) (h3 := heq_t rfl))
  have h3 : realAr.eq 1 0 = false := heq_f (by decide)
  rcases s_Of l h150 hf with ⟨e, -, -, -, k⟩ | ⟨k0, -, k, hsz⟩
  · exact eq_mo_no realAr realAr_ok (olds := olds.map olA) (xs := l.map insA) (h0 := s_law16_up) (h1 := eq_wn_no realAr realAr_ok (xs := l.map insA) (h1 := h) (h3 := h3) (h4 := k))
  obtain ⟨h120, hck⟩ := s_ckL l hf k0
  obtain ⟨hfl, hok⟩ := fl_of_check l hck
  generalize (someW (l.length + 1) l).1 = ws at k hsz hfl hok
  rw [hfl] at hck
  have hwl := szWs_len ws
  have hwn := eq_wn realAr realAr_ok (xs := l.map insA) (ws := wtsA ws) (n := ws.length) (e1 := wts_len ws) (e2 := hble (Nat.le_refl _)) (e3 := tkW ws) (e4 := Nat.zero_add _) (e5 := cut0W ws) (h1 := h) (h3 := h3) (h4 := k)
  cases h30 : realAr.lt 30 (.ofNat olds.length) with
  | true => exact eq_mo_many realAr realAr_ok (olds := olds.map olA) (xs := l.map insA) (ws := wtsA ws) (n := olds.length) (e0 := mlen olA olds) (h0 := s_law16_up) (h1 := hwn) (h2 := h30)
  | false =>
    have hn : olds.length ≤ 30 := by
      by_cases q : olds.length ≤ 30
      · exact q
      · have : realAr.lt 30 (.ofNat olds.length) = true := hlt_t (by show (30 : Int) < (olds.length : Int); omega)
        rw [this] at h30
        cases h30
    have h4 := s_mOf .ro (.inl rfl) olds ws (by omega) (by omega)
    obtain ⟨l1, l2⟩ := mRun_len .ro (.inl rfl) olds ws (List.range olds.length, [], [])
    obtain ⟨h10, hnd, hbd⟩ := lp_o10I olds ws (by omega) (by omega) (mRun olds ws (List.range olds.length, [], [])).2.1 ((mRun olds ws (List.range olds.length, [], [])).2.2.map natA) ((mRun olds ws (List.range olds.length, [], [])).1.map natA) (fun done w rest hw h4 => all_last hck hw h4) ws [] (List.range olds.length, [], []) rfl rfl rfl (by simpa using List.nodup_range) (by simp) (fun _ => rfl)
    simp only [List.length_nil, List.length_range, Nat.zero_add, Nat.add_zero, List.nil_append] at l1 l2 h10
    generalize mRun olds ws (List.range olds.length, [], []) = s at h4 h10 hnd hbd l1 l2
    have hRl : (s.2.2 ++ s.1).length ≤ 2000 := by rw [List.length_append]; omega
    have h27 := lp_o27I olds (by omega) (s.2.2 ++ s.1) hnd hbd hRl (s.2.2 ++ s.1).length 0 (by omega)
    rw [List.drop_zero] at h27
    exact eq_mo realAr realAr_ok (olds := olds.map olA) (xs := l.map insA) (ws := wtsA ws) (take := s.2.1.map zA) (kept := s.2.2.map natA) (gone := s.1.map natA) (many := mkC olds.length fun k => (List.range olds.length).contains k) (many2 := mkC olds.length fun k => (s.2.2 ++ s.1).contains k) (many3 := mkC olds.length fun _ => false) (rest := (s.2.2 ++ s.1).map natA) (n := olds.length) (m := ws.length) (j := (s.2.2 ++ s.1).length) (k := olds.length) (u := s.2.2.length) (v := s.1.length) (t := s.2.2.length + s.1.length) (e0 := mlen olA olds) (h0 := s_law16_up) (h1 := hwn)
      (e1 := wts_len ws) (e2 := Nat.zero_add _) (e3 := cut0W ws) (e4 := hble (Nat.le_refl _)) (e5 := by rw [List.length_map, l1]) (e6 := hbeq _) (e7 := mkC_zero _) (e8 := mlen natA _) (e9 := mlen natA _) (ea := Nat.zero_add _) (eb := rfl) (ec := (List.map_append ..).symm) (ed := hbeq _) (ee := by rw [List.length_map, List.length_append])
      (h2 := h30) (h3 := heq_t rfl) (h4 := hfit (by omega)) (h5 := h4) (h6 := h10) (h7 := hfit (by omega)) (h8 := hfit (by omega)) (h9 := h27) (ha := lp_o33I olds (by omega) olds.length 0 (by omega))
end Go.Va
