/- The functions that the statement reaches, by equations: no statement of its own. -/
import Derived.Test.YtmklimlepgiffabEq12
set_option linter.unusedVariables false
set_option linter.unusedSimpArgs false
set_option linter.unusedSectionVars false
namespace Go.Va
open Go.Proofs
set_option maxRecDepth 100000
set_option maxHeartbeats 4000000
def boolA (b : Bool) : AV := .s (.bool b)
def intA' (z : Int) : AV := .s (.int .i64 z)
def stR3 (q : Perm) (olds ws left : List AV) (i : Nat) : St := { n := 113, k := 0, fr := [(0, .sl 2 olds .ro), (1, .sl 6 ws q), (7, .sl 1 left .full), (8, .s (.int .i64 (.ofNat i)))], O := [] }
def stR3e (q : Perm) (olds ws left : List AV) (i : Nat) : St := { n := 113, k := 0, fr := [(0, .sl 2 olds .ro), (1, .sl 6 ws q), (7, .sl 1 left .full), (8, .s (.int .i64 (.ofNat i))), (24, .s (.bool false))], O := [] }
def stR9 (q : Perm) (olds ws left take kept : List AV) (i : Nat) : St := { n := 113, k := 0, fr := [(0, .sl 2 olds .ro), (1, .sl 6 ws q), (7, .sl 1 left .full), (9, .sl 1 take .full), (10, .sl 1 kept .full), (11, .s (.int .i64 (.ofNat i)))], O := [] }
def stR9e (q : Perm) (olds ws left take kept : List AV) (i : Nat) : St := { n := 113, k := 0, fr := [(0, .sl 2 olds .ro), (1, .sl 6 ws q), (7, .sl 1 left .full), (9, .sl 1 take .full), (10, .sl 1 kept .full), (11, .s (.int .i64 (.ofNat i))), (33, .s (.bool false))], O := [] }
def stR14 (q : Perm) (olds ws left take kept : List AV) (i : Nat) (z : Int) (first : Bool) (k : Nat) : St := { n := 113, k := 0, fr := [(0, .sl 2 olds .ro), (1, .sl 6 ws q), (7, .sl 1 left .full), (9, .sl 1 take .full), (10, .sl 1 kept .full), (11, .s (.int .i64 (.ofNat i))), (12, .s (.int .i64 z)), (13, .s (.bool first)), (14, .s (.int .i64 (.ofNat k)))], O := [] }
def stR14e (q : Perm) (olds ws left take kept : List AV) (i : Nat) (z : Int) (first : Bool) (k : Nat) : St := { n := 113, k := 0, fr := [(0, .sl 2 olds .ro), (1, .sl 6 ws q), (7, .sl 1 left .full), (9, .sl 1 take .full), (10, .sl 1 kept .full), (11, .s (.int .i64 (.ofNat i))), (12, .s (.int .i64 z)), (13, .s (.bool first)), (14, .s (.int .i64 (.ofNat k))), (43, .s (.bool false))], O := [] }
def stR24 (q : Perm) (olds ws left take kept : List AV) (i k : Nat) : St := { n := 113, k := 0, fr := [(0, .sl 2 olds .ro), (1, .sl 6 ws q), (7, .sl 1 left .full), (9, .sl 1 take .full), (10, .sl 1 kept .full), (11, .s (.int .i64 (.ofNat i))), (15, .s (.int .i64 (.ofNat k)))], O := [] }
def stR24e (q : Perm) (olds ws left take kept : List AV) (i k : Nat) : St := { n := 113, k := 0, fr := [(0, .sl 2 olds .ro), (1, .sl 6 ws q), (7, .sl 1 left .full), (9, .sl 1 take .full), (10, .sl 1 kept .full), (11, .s (.int .i64 (.ofNat i))), (15, .s (.int .i64 (.ofNat k))), (82, .s (.bool false))], O := [] }
def stR31 (olds left take kept gone : List AV) (k : Nat) : St := { n := 113, k := 0, fr := [(0, .sl 2 olds .ro), (7, .sl 1 left .full), (9, .sl 1 take .full), (10, .sl 1 kept .full), (16, .sl 1 gone .full), (17, .s (.int .i64 (.ofNat k)))], O := [] }
def stR31e (olds left take kept gone : List AV) (k : Nat) : St := { n := 113, k := 0, fr := [(0, .sl 2 olds .ro), (7, .sl 1 left .full), (9, .sl 1 take .full), (10, .sl 1 kept .full), (16, .sl 1 gone .full), (17, .s (.int .i64 (.ofNat k))), (99, .s (.bool false))], O := [] }
section
variable (A : Ar) (hA : ArOk A) (q : Perm) (hq : q = .full) (olds ws left left2 left3 ats ks take take2 kept kept2 gone gone2 : List AV) (n m k j i t u v : Nat) (kd z : Int) (tag key text a b : ByteArray) (first first2 s : Bool)
include hA
theorem eq_takes_1 (h1 : A.eq kd 1 = true) : evl (envV A) (.call 86 [.agg (wC .imm kd tag key text ats ks), .agg [.s (.string a), .s (.string b)], .s (.bool first)] []) = some (.ret (.s (.bool (A.seq a tag && (A.seq b key && (first || !(A.seq key ⟨#[]⟩)))))) []) := by
  unfold wC
  cases first
  ·
    rw [evl_fn (envV A) 86 _ _ (fn := Try.f86) (c := bd86) (lv := lvF86) rfl rfl rfl rfl rfl rfl]
    have hnle := hA.nleE; have hneq := hA.neqE
    generalize lpOf (envV A) 86 bd86 = LP
    generalize evl (envV A) = E at h1 ⊢
    obtain ⟨aadd, asub, amul, arem, aquo, awr, ashr, aeq, alt, ale, aseq, aslt, acat, acut, asiz, aat, anle, aneq, afit⟩ := A
    simp only at hnle hneq
    subst hnle hneq
    try simp only at h1
    cbv
    rewrite [h1]
    cbv
    cases c1 : aseq a tag
    · cbv
    · cbv
      cases c2 : aseq b key
      · cbv
      · cbv
  ·
    rw [evl_fn (envV A) 86 _ _ (fn := Try.f86) (c := bd86) (lv := lvF86) rfl rfl rfl rfl rfl rfl]
    have hnle := hA.nleE; have hneq := hA.neqE
    generalize lpOf (envV A) 86 bd86 = LP
    generalize evl (envV A) = E at h1 ⊢
    obtain ⟨aadd, asub, amul, arem, aquo, awr, ashr, aeq, alt, ale, aseq, aslt, acat, acut, asiz, aat, anle, aneq, afit⟩ := A
    simp only at hnle hneq
    subst hnle hneq
    try simp only at h1
    cbv
    rewrite [h1]
    cbv
    cases c1 : aseq a tag
    · cbv
    · cbv
      cases c2 : aseq b key
      · cbv
      · cbv
theorem eq_takes_2 (h1 : A.eq kd 1 = false) (h2 : A.eq kd 2 = true) : evl (envV A) (.call 86 [.agg (wC .imm kd tag key text ats ks), .agg [.s (.string a), .s (.string b)], .s (.bool first)] []) = some (.ret (.s (.bool (first && A.seq a ⟨#[]⟩))) []) := by
  unfold wC
  cases first
  ·
    rw [evl_fn (envV A) 86 _ _ (fn := Try.f86) (c := bd86) (lv := lvF86) rfl rfl rfl rfl rfl rfl]
    have hnle := hA.nleE; have hneq := hA.neqE
    generalize lpOf (envV A) 86 bd86 = LP
    generalize evl (envV A) = E at h1 h2 ⊢
    obtain ⟨aadd, asub, amul, arem, aquo, awr, ashr, aeq, alt, ale, aseq, aslt, acat, acut, asiz, aat, anle, aneq, afit⟩ := A
    simp only at hnle hneq
    subst hnle hneq
    try simp only at h1 h2
    cbv
    rewrite [h1]
    cbv
    rewrite [h2]
    cbv
  ·
    rw [evl_fn (envV A) 86 _ _ (fn := Try.f86) (c := bd86) (lv := lvF86) rfl rfl rfl rfl rfl rfl]
    have hnle := hA.nleE; have hneq := hA.neqE
    generalize lpOf (envV A) 86 bd86 = LP
    generalize evl (envV A) = E at h1 h2 ⊢
    obtain ⟨aadd, asub, amul, arem, aquo, awr, ashr, aeq, alt, ale, aseq, aslt, acat, acut, asiz, aat, anle, aneq, afit⟩ := A
    simp only at hnle hneq
    subst hnle hneq
    try simp only at h1 h2
    cbv
    rewrite [h1]
    cbv
    rewrite [h2]
    cbv
theorem eq_takes_3 (h1 : A.eq kd 1 = false) (h2 : A.eq kd 2 = false) (h3 : A.eq kd 3 = true) : evl (envV A) (.call 86 [.agg (wC .imm kd tag key text ats ks), .agg [.s (.string a), .s (.string b)], .s (.bool first)] []) = some (.ret (.s (.bool first)) []) := by
  unfold wC
  cases first
  ·
    rw [evl_fn (envV A) 86 _ _ (fn := Try.f86) (c := bd86) (lv := lvF86) rfl rfl rfl rfl rfl rfl]
    have hnle := hA.nleE; have hneq := hA.neqE
    generalize lpOf (envV A) 86 bd86 = LP
    generalize evl (envV A) = E at h1 h2 h3 ⊢
    obtain ⟨aadd, asub, amul, arem, aquo, awr, ashr, aeq, alt, ale, aseq, aslt, acat, acut, asiz, aat, anle, aneq, afit⟩ := A
    simp only at hnle hneq
    subst hnle hneq
    try simp only at h1 h2 h3
    cbv
    rewrite [h1]
    cbv
    rewrite [h2]
    cbv
    rewrite [h3]
    cbv
  ·
    rw [evl_fn (envV A) 86 _ _ (fn := Try.f86) (c := bd86) (lv := lvF86) rfl rfl rfl rfl rfl rfl]
    have hnle := hA.nleE; have hneq := hA.neqE
    generalize lpOf (envV A) 86 bd86 = LP
    generalize evl (envV A) = E at h1 h2 h3 ⊢
    obtain ⟨aadd, asub, amul, arem, aquo, awr, ashr, aeq, alt, ale, aseq, aslt, acat, acut, asiz, aat, anle, aneq, afit⟩ := A
    simp only at hnle hneq
    subst hnle hneq
    try simp only at h1 h2 h3
    cbv
    rewrite [h1]
    cbv
    rewrite [h2]
    cbv
    rewrite [h3]
    cbv
theorem eq_takes_o (h1 : A.eq kd 1 = false) (h2 : A.eq kd 2 = false) (h3 : A.eq kd 3 = false) : evl (envV A) (.call 86 [.agg (wC .imm kd tag key text ats ks), .agg [.s (.string a), .s (.string b)], .s (.bool first)] []) = some (.ret (.s (.bool false)) []) := by
  unfold wC
  rw [evl_fn (envV A) 86 _ _ (fn := Try.f86) (c := bd86) (lv := lvF86) rfl rfl rfl rfl rfl rfl]
  have hnle := hA.nleE; have hneq := hA.neqE
  generalize lpOf (envV A) 86 bd86 = LP
  generalize evl (envV A) = E at h1 h2 h3 ⊢
  obtain ⟨aadd, asub, amul, arem, aquo, awr, ashr, aeq, alt, ale, aseq, aslt, acat, acut, asiz, aat, anle, aneq, afit⟩ := A
  simp only at hnle hneq
  subst hnle hneq
  try simp only at h1 h2 h3
  cbv
  rewrite [h1]
  cbv
  rewrite [h2]
  cbv
  rewrite [h3]
  cbv
include hq
theorem lp_r3 {r : Option Res} (e0 : olds.length = n) (e1 : left.length = n) (e2 : Nat.ble (Nat.succ i) n = true) (e3 : 0 + i = i) (e4 : lset left i (.s (.bool true)) = left2) (e5 : lget left i = some (.s (.bool s))) (h1 : A.lt (.ofNat i) (.ofNat n) = true) (h2 : A.add .i64 (.ofNat i) 1 = .ofNat (Nat.succ i))
    (hr : lpOf (envV A) 47 bd47 3 (stR3 q olds ws left2 (Nat.succ i)) = r) : lpOf (envV A) 47 bd47 3 (stR3 q olds ws left i) = r := by
  unfold stR3 at hr ⊢
  subst hq
  rw [lp_step (envV A) 47 (c0 := bd47) (lv := lvF47) rfl rfl]
  have hnle := hA.nleE; have hneq := hA.neqE
  rw [lp_split (lpOf (envV A) 47 bd47) 3]
  generalize lpOf (envV A) 47 bd47 3 = L3 at e0 e1 e2 e3 e4 e5 h1 h2 hr ⊢
  generalize lpOf (envV A) 47 bd47 = LP
  generalize evl (envV A) = E at e0 e1 e2 e3 e4 e5 h1 h2 hr ⊢
  obtain ⟨aadd, asub, amul, arem, aquo, awr, ashr, aeq, alt, ale, aseq, aslt, acat, acut, asiz, aat, anle, aneq, afit⟩ := A
  simp only at hnle hneq
  subst hnle hneq
  try simp only at h1 h2 hr
  conv at e0 => lhs; cbv
  conv at e1 => lhs; cbv
  conv at e2 => lhs; cbv
  conv at e3 => lhs; cbv
  conv at e4 => lhs; cbv
  conv at e5 => lhs; cbv
  cbv
  rewrite [e0]
  cbv
  rewrite [h1]
  cbv
  rewrite [e1]
  cbv
  rewrite [e2]
  cbv
  rewrite [e3]
  cbv
  rewrite [e5]
  cbv
  rewrite [e4]
  cbv
  rewrite [h2]
  cbv
  rewrite [hr]
  cbv
theorem lp_r3_end (e0 : olds.length = n) (h1 : A.lt (.ofNat i) (.ofNat n) = false) : lpOf (envV A) 47 bd47 3 (stR3 q olds ws left i) = some (.code (.exit 0) (stR3e q olds ws left i)) := by
  unfold stR3 stR3e
  subst hq
  rw [lp_step (envV A) 47 (c0 := bd47) (lv := lvF47) rfl rfl]
  have hnle := hA.nleE; have hneq := hA.neqE
  generalize lpOf (envV A) 47 bd47 = LP
  generalize evl (envV A) = E at e0 h1 ⊢
  obtain ⟨aadd, asub, amul, arem, aquo, awr, ashr, aeq, alt, ale, aseq, aslt, acat, acut, asiz, aat, anle, aneq, afit⟩ := A
  simp only at hnle hneq
  subst hnle hneq
  try simp only at h1
  conv at e0 => lhs; cbv
  cbv
  rewrite [e0]
  cbv
  rewrite [h1]
  cbv
section
variable (e0 : olds.length = n) (e1 : ws.length = m) (e2 : lget ws i = some (.agg (wC .imm kd tag key text ats ks))) (e3 : Nat.ble (Nat.succ i) m = true) (e4 : 0 + i = i) (e5 : left.length = n) (e6 : Nat.ble (Nat.succ k) n = true) (e7 : 0 + k = k) (h1 : A.lt (.ofNat k) (.ofNat n) = true) (h2 : A.add .i64 (.ofNat k) 1 = .ofNat (Nat.succ k))
include e0 e1 e2 e3 e4 e5 e6 e7 h1 h2
theorem lp_r14_skip {r : Option Res} (e8 : lget left k = some (.s (.bool false))) (h3 : A.lt (-1) 0 = true)
    (hr : lpOf (envV A) 47 bd47 14 (stR14 q olds ws left take kept i (-1) first (Nat.succ k)) = r) : lpOf (envV A) 47 bd47 14 (stR14 q olds ws left take kept i (-1) first k) = r := by
  unfold stR14 at hr ⊢
  subst hq
  rw [lp_step (envV A) 47 (c0 := bd47) (lv := lvF47) rfl rfl]
  have hnle := hA.nleE; have hneq := hA.neqE
  rw [lp_split (lpOf (envV A) 47 bd47) 14]
  generalize lpOf (envV A) 47 bd47 14 = L14 at e0 e5 e6 e7 e8 h1 h2 h3 hr ⊢
  generalize lpOf (envV A) 47 bd47 = LP
  generalize evl (envV A) = E at e0 e5 e6 e7 e8 h1 h2 h3 hr ⊢
  obtain ⟨aadd, asub, amul, arem, aquo, awr, ashr, aeq, alt, ale, aseq, aslt, acat, acut, asiz, aat, anle, aneq, afit⟩ := A
  simp only at hnle hneq
  subst hnle hneq
  try simp only at h1 h2 h3 hr
  conv at e0 => lhs; cbv
  conv at e5 => lhs; cbv
  conv at e6 => lhs; cbv
  conv at e7 => lhs; cbv
  conv at e8 => lhs; cbv
  cbv
  rewrite [e0]
  cbv
  rewrite [h1]
  cbv
  rewrite [h3]
  cbv
  rewrite [e5]
  cbv
  rewrite [e6]
  cbv
  rewrite [e7]
  cbv
  rewrite [e8]
  cbv
  rewrite [h2]
  cbv
  rewrite [hr]
  cbv
theorem lp_r14_miss {r : Option Res} (e8 : lget left k = some (.s (.bool true))) (e9 : lget olds k = some (.agg [.s (.string a), .s (.string b)])) (h3 : A.lt (-1) 0 = true) (h4 : evl (envV A) (.call 86 [.agg (wC .imm kd tag key text ats ks), .agg [.s (.string a), .s (.string b)], .s (.bool first)] []) = some (.ret (.s (.bool false)) []))
    (hr : lpOf (envV A) 47 bd47 14 (stR14 q olds ws left take kept i (-1) false (Nat.succ k)) = r) : lpOf (envV A) 47 bd47 14 (stR14 q olds ws left take kept i (-1) first k) = r := by
  unfold stR14 at hr ⊢
  unfold wC at e2 h4
  subst hq
  rw [lp_step (envV A) 47 (c0 := bd47) (lv := lvF47) rfl rfl]
  have hnle := hA.nleE; have hneq := hA.neqE
  rw [lp_split (lpOf (envV A) 47 bd47) 14]
  generalize lpOf (envV A) 47 bd47 14 = L14 at e0 e1 e2 e3 e4 e5 e6 e7 e8 e9 h1 h2 h3 h4 hr ⊢
  generalize lpOf (envV A) 47 bd47 = LP
  generalize evl (envV A) = E at e0 e1 e2 e3 e4 e5 e6 e7 e8 e9 h1 h2 h3 h4 hr ⊢
  obtain ⟨aadd, asub, amul, arem, aquo, awr, ashr, aeq, alt, ale, aseq, aslt, acat, acut, asiz, aat, anle, aneq, afit⟩ := A
  simp only at hnle hneq
  subst hnle hneq
  try simp only at h1 h2 h3 h4 hr
  conv at e0 => lhs; cbv
  conv at e1 => lhs; cbv
  conv at e2 => lhs; cbv
  conv at e3 => lhs; cbv
  conv at e4 => lhs; cbv
  conv at e5 => lhs; cbv
  conv at e6 => lhs; cbv
  conv at e7 => lhs; cbv
  conv at e8 => lhs; cbv
  conv at e9 => lhs; cbv
  cbv
  rewrite [e0]
  cbv
  rewrite [h1]
  cbv
  rewrite [h3]
  cbv
  rewrite [e5]
  cbv
  rewrite [e6]
  cbv
  rewrite [e7]
  cbv
  rewrite [e8]
  cbv
  rewrite [e1]
  cbv
  rewrite [e3]
  cbv
  rewrite [e4]
  cbv
  rewrite [e2]
  cbv
  rewrite [e9]
  cbv
  rewrite [h4]
  cbv
  rewrite [h2]
  cbv
  rewrite [hr]
  cbv
theorem lp_r14_hit {r : Option Res} (e8 : lget left k = some (.s (.bool true))) (e9 : lget olds k = some (.agg [.s (.string a), .s (.string b)])) (h3 : A.lt (-1) 0 = true) (h4 : evl (envV A) (.call 86 [.agg (wC .imm kd tag key text ats ks), .agg [.s (.string a), .s (.string b)], .s (.bool first)] []) = some (.ret (.s (.bool true)) []))
    (hr : lpOf (envV A) 47 bd47 14 (stR14 q olds ws left take kept i (.ofNat k) false (Nat.succ k)) = r) : lpOf (envV A) 47 bd47 14 (stR14 q olds ws left take kept i (-1) first k) = r := by
  unfold stR14 at hr ⊢
  unfold wC at e2 h4
  subst hq
  rw [lp_step (envV A) 47 (c0 := bd47) (lv := lvF47) rfl rfl]
  have hnle := hA.nleE; have hneq := hA.neqE
  rw [lp_split (lpOf (envV A) 47 bd47) 14]
  generalize lpOf (envV A) 47 bd47 14 = L14 at e0 e1 e2 e3 e4 e5 e6 e7 e8 e9 h1 h2 h3 h4 hr ⊢
  generalize lpOf (envV A) 47 bd47 = LP
  generalize evl (envV A) = E at e0 e1 e2 e3 e4 e5 e6 e7 e8 e9 h1 h2 h3 h4 hr ⊢
  obtain ⟨aadd, asub, amul, arem, aquo, awr, ashr, aeq, alt, ale, aseq, aslt, acat, acut, asiz, aat, anle, aneq, afit⟩ := A
  simp only at hnle hneq
  subst hnle hneq
  try simp only at h1 h2 h3 h4 hr
  conv at e0 => lhs; cbv
  conv at e1 => lhs; cbv
  conv at e2 => lhs; cbv
  conv at e3 => lhs; cbv
  conv at e4 => lhs; cbv
  conv at e5 => lhs; cbv
  conv at e6 => lhs; cbv
  conv at e7 => lhs; cbv
  conv at e8 => lhs; cbv
  conv at e9 => lhs; cbv
  cbv
  rewrite [e0]
  cbv
  rewrite [h1]
  cbv
  rewrite [h3]
  cbv
  rewrite [e5]
  cbv
  rewrite [e6]
  cbv
  rewrite [e7]
  cbv
  rewrite [e8]
  cbv
  rewrite [e1]
  cbv
  rewrite [e3]
  cbv
  rewrite [e4]
  cbv
  rewrite [e2]
  cbv
  rewrite [e9]
  cbv
  rewrite [h4]
  cbv
  rewrite [h2]
  cbv
  rewrite [hr]
  cbv
end
theorem lp_r14_end (e0 : olds.length = n) (h1 : A.lt (.ofNat k) (.ofNat n) = false) : lpOf (envV A) 47 bd47 14 (stR14 q olds ws left take kept i z first k) = some (.code (.exit 4) (stR14e q olds ws left take kept i z first k)) := by
  unfold stR14 stR14e
  subst hq
  rw [lp_step (envV A) 47 (c0 := bd47) (lv := lvF47) rfl rfl]
  have hnle := hA.nleE; have hneq := hA.neqE
  generalize lpOf (envV A) 47 bd47 = LP
  generalize evl (envV A) = E at e0 h1 ⊢
  obtain ⟨aadd, asub, amul, arem, aquo, awr, ashr, aeq, alt, ale, aseq, aslt, acat, acut, asiz, aat, anle, aneq, afit⟩ := A
  simp only at hnle hneq
  subst hnle hneq
  try simp only at h1
  conv at e0 => lhs; cbv
  cbv
  rewrite [e0]
  cbv
  rewrite [h1]
  cbv
theorem lp_r14_x (e0 : olds.length = n) (h1 : A.lt (.ofNat k) (.ofNat n) = true) (h2 : A.lt z 0 = false) : lpOf (envV A) 47 bd47 14 (stR14 q olds ws left take kept i z first k) = some (.code (.exit 4) (stR14e q olds ws left take kept i z first k)) := by
  unfold stR14 stR14e
  subst hq
  rw [lp_step (envV A) 47 (c0 := bd47) (lv := lvF47) rfl rfl]
  have hnle := hA.nleE; have hneq := hA.neqE
  generalize lpOf (envV A) 47 bd47 = LP
  generalize evl (envV A) = E at e0 h1 h2 ⊢
  obtain ⟨aadd, asub, amul, arem, aquo, awr, ashr, aeq, alt, ale, aseq, aslt, acat, acut, asiz, aat, anle, aneq, afit⟩ := A
  simp only at hnle hneq
  subst hnle hneq
  try simp only at h1 h2
  conv at e0 => lhs; cbv
  cbv
  rewrite [e0]
  cbv
  rewrite [h1]
  cbv
  rewrite [h2]
  cbv
section
variable (e0 : olds.length = n) (e1 : ws.length = m) (e2 : lget ws i = some (.agg (wC .imm kd tag key text ats ks))) (e3 : Nat.ble (Nat.succ i) m = true) (e4 : 0 + i = i)
include e0
theorem lp_r24_end (h1 : A.lt (.ofNat k) (.ofNat n) = false) : lpOf (envV A) 47 bd47 24 (stR24 q olds ws left take kept i k) = some (.code (.exit 6) (stR24e q olds ws left take kept i k)) := by
  unfold stR24 stR24e
  subst hq
  rw [lp_step (envV A) 47 (c0 := bd47) (lv := lvF47) rfl rfl]
  have hnle := hA.nleE; have hneq := hA.neqE
  generalize lpOf (envV A) 47 bd47 = LP
  generalize evl (envV A) = E at e0 h1 ⊢
  obtain ⟨aadd, asub, amul, arem, aquo, awr, ashr, aeq, alt, ale, aseq, aslt, acat, acut, asiz, aat, anle, aneq, afit⟩ := A
  simp only at hnle hneq
  subst hnle hneq
  try simp only at h1
  conv at e0 => lhs; cbv
  cbv
  rewrite [e0]
  cbv
  rewrite [h1]
  cbv
include e1 e2 e3 e4
theorem lp_r24_x (h1 : A.lt (.ofNat k) (.ofNat n) = true) (h2 : A.eq kd 4 = false) : lpOf (envV A) 47 bd47 24 (stR24 q olds ws left take kept i k) = some (.code (.exit 6) (stR24e q olds ws left take kept i k)) := by
  unfold stR24 stR24e
  unfold wC at e2
  subst hq
  rw [lp_step (envV A) 47 (c0 := bd47) (lv := lvF47) rfl rfl]
  have hnle := hA.nleE; have hneq := hA.neqE
  generalize lpOf (envV A) 47 bd47 = LP
  generalize evl (envV A) = E at e0 e1 e2 e3 e4 h1 h2 ⊢
  obtain ⟨aadd, asub, amul, arem, aquo, awr, ashr, aeq, alt, ale, aseq, aslt, acat, acut, asiz, aat, anle, aneq, afit⟩ := A
  simp only at hnle hneq
  subst hnle hneq
  try simp only at h1 h2
  conv at e0 => lhs; cbv
  conv at e1 => lhs; cbv
  conv at e2 => lhs; cbv
  conv at e3 => lhs; cbv
  conv at e4 => lhs; cbv
  cbv
  rewrite [e0]
  cbv
  rewrite [h1]
  cbv
  rewrite [e1]
  cbv
  rewrite [e3]
  cbv
  rewrite [e4]
  cbv
  rewrite [e2]
  cbv
  rewrite [h2]
  cbv
theorem lp_r24_f {r : Option Res} (e5 : left.length = n) (e6 : Nat.ble (Nat.succ k) n = true) (e7 : 0 + k = k) (e8 : lget left k = some (.s (.bool false))) (h1 : A.lt (.ofNat k) (.ofNat n) = true) (h2 : A.eq kd 4 = true) (h3 : A.add .i64 (.ofNat k) 1 = .ofNat (Nat.succ k))
    (hr : lpOf (envV A) 47 bd47 24 (stR24 q olds ws left take kept i (Nat.succ k)) = r) : lpOf (envV A) 47 bd47 24 (stR24 q olds ws left take kept i k) = r := by
  unfold stR24 at hr ⊢
  unfold wC at e2
  subst hq
  rw [lp_step (envV A) 47 (c0 := bd47) (lv := lvF47) rfl rfl]
  have hnle := hA.nleE; have hneq := hA.neqE
  rw [lp_split (lpOf (envV A) 47 bd47) 24]
  generalize lpOf (envV A) 47 bd47 24 = L24 at e0 e1 e2 e3 e4 e5 e6 e7 e8 h1 h2 h3 hr ⊢
  generalize lpOf (envV A) 47 bd47 = LP
  generalize evl (envV A) = E at e0 e1 e2 e3 e4 e5 e6 e7 e8 h1 h2 h3 hr ⊢
  obtain ⟨aadd, asub, amul, arem, aquo, awr, ashr, aeq, alt, ale, aseq, aslt, acat, acut, asiz, aat, anle, aneq, afit⟩ := A
  simp only at hnle hneq
  subst hnle hneq
  try simp only at h1 h2 h3 hr
  conv at e0 => lhs; cbv
  conv at e1 => lhs; cbv
  conv at e2 => lhs; cbv
  conv at e3 => lhs; cbv
  conv at e4 => lhs; cbv
  conv at e5 => lhs; cbv
  conv at e6 => lhs; cbv
  conv at e7 => lhs; cbv
  conv at e8 => lhs; cbv
  cbv
  rewrite [e0]
  cbv
  rewrite [h1]
  cbv
  rewrite [e1]
  cbv
  rewrite [e3]
  cbv
  rewrite [e4]
  cbv
  rewrite [e2]
  cbv
  rewrite [h2]
  cbv
  rewrite [e5]
  cbv
  rewrite [e6]
  cbv
  rewrite [e7]
  cbv
  rewrite [e8]
  cbv
  rewrite [h3]
  cbv
  rewrite [hr]
  cbv
theorem lp_r24_t {r : Option Res} (e5 : left.length = n) (e6 : Nat.ble (Nat.succ k) n = true) (e7 : 0 + k = k) (e8 : lget left k = some (.s (.bool true))) (e9 : kept.length = u) (ea : kept ++ [.s (.int .i64 (.ofNat k))] = kept2) (eb : Nat.beq u u = true) (ec : lset left k (.s (.bool false)) = left2) (h1 : A.lt (.ofNat k) (.ofNat n) = true) (h2 : A.eq kd 4 = true) (h3 : A.add .i64 (.ofNat k) 1 = .ofNat (Nat.succ k)) (h4 : A.fit (Nat.succ u) 8 = true)
    (hr : lpOf (envV A) 47 bd47 24 (stR24 q olds ws left2 take kept2 i (Nat.succ k)) = r) : lpOf (envV A) 47 bd47 24 (stR24 q olds ws left take kept i k) = r := by
  unfold stR24 at hr ⊢
  unfold wC at e2
  subst hq
  rw [lp_step (envV A) 47 (c0 := bd47) (lv := lvF47) rfl rfl]
  have hnle := hA.nleE; have hneq := hA.neqE
  rw [lp_split (lpOf (envV A) 47 bd47) 24]
  generalize lpOf (envV A) 47 bd47 24 = L24 at e0 e1 e2 e3 e4 e5 e6 e7 e8 e9 ea eb ec h1 h2 h3 h4 hr ⊢
  generalize lpOf (envV A) 47 bd47 = LP
  generalize evl (envV A) = E at e0 e1 e2 e3 e4 e5 e6 e7 e8 e9 ea eb ec h1 h2 h3 h4 hr ⊢
  obtain ⟨aadd, asub, amul, arem, aquo, awr, ashr, aeq, alt, ale, aseq, aslt, acat, acut, asiz, aat, anle, aneq, afit⟩ := A
  simp only at hnle hneq
  subst hnle hneq
  try simp only at h1 h2 h3 h4 hr
  conv at e0 => lhs; cbv
  conv at e1 => lhs; cbv
  conv at e2 => lhs; cbv
  conv at e3 => lhs; cbv
  conv at e4 => lhs; cbv
  conv at e5 => lhs; cbv
  conv at e6 => lhs; cbv
  conv at e7 => lhs; cbv
  conv at e8 => lhs; cbv
  conv at e9 => lhs; cbv
  conv at ea => lhs; cbv
  conv at eb => lhs; cbv
  conv at ec => lhs; cbv
  cbv
  rewrite [e0]
  cbv
  rewrite [h1]
  cbv
  rewrite [e1]
  cbv
  rewrite [e3]
  cbv
  rewrite [e4]
  cbv
  rewrite [e2]
  cbv
  rewrite [h2]
  cbv
  rewrite [e5]
  cbv
  rewrite [e6]
  cbv
  rewrite [e7]
  cbv
  rewrite [e8]
  cbv
  rewrite [e9]
  cbv
  rewrite [ea]
  cbv
  rewrite [eb]
  cbv
  rewrite [h4]
  cbv
  rewrite [e5]
  cbv
  rewrite [e6]
  cbv
  rewrite [e7]
  cbv
  rewrite [e8]
  cbv
  rewrite [ec]
  cbv
  rewrite [h3]
  cbv
  rewrite [hr]
  cbv
end
theorem lp_r9_no {r : Option Res} (e1 : ws.length = m) (e2 : take.length = t) (e3 : take ++ [.s (.int .i64 (-1))] = take2) (e4 : Nat.beq t t = true) (h1 : A.lt (.ofNat i) (.ofNat m) = true) (h2 : A.add .i64 (.ofNat i) 1 = .ofNat (Nat.succ i)) (h3 : A.fit (Nat.succ t) 8 = true) (h4 : A.le 0 (-1) = false)
    (h5 : lpOf (envV A) 47 bd47 14 (stR14 q olds ws left take kept i (-1) true 0) = some (.code (.exit 4) (stR14e q olds ws left take kept i (-1) first k)))
    (h6 : lpOf (envV A) 47 bd47 24 (stR24 q olds ws left take2 kept i 0) = some (.code (.exit 6) (stR24e q olds ws left2 take2 kept2 i j)))
    (hr : lpOf (envV A) 47 bd47 9 (stR9 q olds ws left2 take2 kept2 (Nat.succ i)) = r) : lpOf (envV A) 47 bd47 9 (stR9 q olds ws left take kept i) = r := by
  unfold stR9 at hr ⊢
  unfold stR14 stR14e at h5
  unfold stR24 stR24e at h6
  simp only [show Int.ofNat 0 = 0 from rfl] at h5 h6
  subst hq
  rw [lp_step (envV A) 47 (c0 := bd47) (lv := lvF47) rfl rfl]
  have hnle := hA.nleE; have hneq := hA.neqE
  rw [lp_split (lpOf (envV A) 47 bd47) 9]
  generalize lpOf (envV A) 47 bd47 9 = L9 at e1 e2 e3 e4 h1 h2 h3 h4 h5 h6 hr ⊢
  rw [lp_split (lpOf (envV A) 47 bd47) 14]
  generalize lpOf (envV A) 47 bd47 14 = L14 at e1 e2 e3 e4 h1 h2 h3 h4 h5 h6 hr ⊢
  rw [lp_split (lpOf (envV A) 47 bd47) 24]
  generalize lpOf (envV A) 47 bd47 24 = L24 at e1 e2 e3 e4 h1 h2 h3 h4 h5 h6 hr ⊢
  generalize lpOf (envV A) 47 bd47 = LP
  generalize evl (envV A) = E at e1 e2 e3 e4 h1 h2 h3 h4 h5 h6 hr ⊢
  obtain ⟨aadd, asub, amul, arem, aquo, awr, ashr, aeq, alt, ale, aseq, aslt, acat, acut, asiz, aat, anle, aneq, afit⟩ := A
  simp only at hnle hneq
  subst hnle hneq
  try simp only at h1 h2 h3 h4 h5 h6 hr
  conv at e1 => lhs; cbv
  conv at e2 => lhs; cbv
  conv at e3 => lhs; cbv
  conv at e4 => lhs; cbv
  cbv
  rewrite [e1]
  cbv
  rewrite [h1]
  cbv
  rewrite [h5]
  cbv
  rewrite [h4]
  cbv
  rewrite [e2]
  cbv
  rewrite [e3]
  cbv
  rewrite [e4]
  cbv
  rewrite [h3]
  cbv
  rewrite [h6]
  cbv
  rewrite [h2]
  cbv
  rewrite [hr]
  cbv
theorem lp_r9_hit {r : Option Res} (e1 : ws.length = m) (e2 : take.length = t) (e3 : take ++ [.s (.int .i64 (.ofNat v))] = take2) (e4 : Nat.beq t t = true) (e5 : left.length = n) (e6 : Nat.ble (Nat.succ v) n = true) (e7 : 0 + v = v) (e8 : lset left v (.s (.bool false)) = left3) (e9 : lget left v = some (.s (.bool s))) (h1 : A.lt (.ofNat i) (.ofNat m) = true) (h2 : A.add .i64 (.ofNat i) 1 = .ofNat (Nat.succ i)) (h3 : A.fit (Nat.succ t) 8 = true) (h4 : A.le 0 (.ofNat v) = true)
    (h5 : lpOf (envV A) 47 bd47 14 (stR14 q olds ws left take kept i (-1) true 0) = some (.code (.exit 4) (stR14e q olds ws left take kept i (.ofNat v) first k)))
    (h6 : lpOf (envV A) 47 bd47 24 (stR24 q olds ws left3 take2 kept i 0) = some (.code (.exit 6) (stR24e q olds ws left2 take2 kept2 i j)))
    (hr : lpOf (envV A) 47 bd47 9 (stR9 q olds ws left2 take2 kept2 (Nat.succ i)) = r) : lpOf (envV A) 47 bd47 9 (stR9 q olds ws left take kept i) = r := by
  unfold stR9 at hr ⊢
  unfold stR14 stR14e at h5
  unfold stR24 stR24e at h6
  simp only [show Int.ofNat 0 = 0 from rfl] at h5 h6
  subst hq
  rw [lp_step (envV A) 47 (c0 := bd47) (lv := lvF47) rfl rfl]
  have hnle := hA.nleE; have hneq := hA.neqE
  rw [lp_split (lpOf (envV A) 47 bd47) 9]
  generalize lpOf (envV A) 47 bd47 9 = L9 at e1 e2 e3 e4 e5 e6 e7 e8 e9 h1 h2 h3 h4 h5 h6 hr ⊢
  rw [lp_split (lpOf (envV A) 47 bd47) 14]
  generalize lpOf (envV A) 47 bd47 14 = L14 at e1 e2 e3 e4 e5 e6 e7 e8 e9 h1 h2 h3 h4 h5 h6 hr ⊢
  rw [lp_split (lpOf (envV A) 47 bd47) 24]
  generalize lpOf (envV A) 47 bd47 24 = L24 at e1 e2 e3 e4 e5 e6 e7 e8 e9 h1 h2 h3 h4 h5 h6 hr ⊢
  generalize lpOf (envV A) 47 bd47 = LP
  generalize evl (envV A) = E at e1 e2 e3 e4 e5 e6 e7 e8 e9 h1 h2 h3 h4 h5 h6 hr ⊢
  obtain ⟨aadd, asub, amul, arem, aquo, awr, ashr, aeq, alt, ale, aseq, aslt, acat, acut, asiz, aat, anle, aneq, afit⟩ := A
  simp only at hnle hneq
  subst hnle hneq
  try simp only at h1 h2 h3 h4 h5 h6 hr
  conv at e1 => lhs; cbv
  conv at e2 => lhs; cbv
  conv at e3 => lhs; cbv
  conv at e4 => lhs; cbv
  conv at e5 => lhs; cbv
  conv at e6 => lhs; cbv
  conv at e7 => lhs; cbv
  conv at e8 => lhs; cbv
  conv at e9 => lhs; cbv
  cbv
  rewrite [e1]
  cbv
  rewrite [h1]
  cbv
  rewrite [h5]
  cbv
  rewrite [h4]
  cbv
  rewrite [e5]
  cbv
  rewrite [e6]
  cbv
  rewrite [e7]
  cbv
  rewrite [e9]
  cbv
  rewrite [e2]
  cbv
  rewrite [e3]
  cbv
  rewrite [e4]
  cbv
  rewrite [e8]
  cbv
  rewrite [h3]
  cbv
  rewrite [h6]
  cbv
  rewrite [h2]
  cbv
  rewrite [hr]
  cbv
theorem lp_r9_end (e1 : ws.length = m) (h1 : A.lt (.ofNat i) (.ofNat m) = false) : lpOf (envV A) 47 bd47 9 (stR9 q olds ws left take kept i) = some (.code (.exit 2) (stR9e q olds ws left take kept i)) := by
  unfold stR9 stR9e
  subst hq
  rw [lp_step (envV A) 47 (c0 := bd47) (lv := lvF47) rfl rfl]
  have hnle := hA.nleE; have hneq := hA.neqE
  generalize lpOf (envV A) 47 bd47 = LP
  generalize evl (envV A) = E at e1 h1 ⊢
  obtain ⟨aadd, asub, amul, arem, aquo, awr, ashr, aeq, alt, ale, aseq, aslt, acat, acut, asiz, aat, anle, aneq, afit⟩ := A
  simp only at hnle hneq
  subst hnle hneq
  try simp only at h1
  conv at e1 => lhs; cbv
  cbv
  rewrite [e1]
  cbv
  rewrite [h1]
  cbv
omit hq
theorem lp_r31_f {r : Option Res} (e0 : olds.length = n) (e5 : left.length = n) (e6 : Nat.ble (Nat.succ k) n = true) (e7 : 0 + k = k) (e8 : lget left k = some (.s (.bool false))) (h1 : A.lt (.ofNat k) (.ofNat n) = true) (h3 : A.add .i64 (.ofNat k) 1 = .ofNat (Nat.succ k))
    (hr : lpOf (envV A) 47 bd47 31 (stR31 olds left take kept gone (Nat.succ k)) = r) : lpOf (envV A) 47 bd47 31 (stR31 olds left take kept gone k) = r := by
  unfold stR31 at hr ⊢
  rw [lp_step (envV A) 47 (c0 := bd47) (lv := lvF47) rfl rfl]
  have hnle := hA.nleE; have hneq := hA.neqE
  rw [lp_split (lpOf (envV A) 47 bd47) 31]
  generalize lpOf (envV A) 47 bd47 31 = L31 at e0 e5 e6 e7 e8 h1 h3 hr ⊢
  generalize lpOf (envV A) 47 bd47 = LP
  generalize evl (envV A) = E at e0 e5 e6 e7 e8 h1 h3 hr ⊢
  obtain ⟨aadd, asub, amul, arem, aquo, awr, ashr, aeq, alt, ale, aseq, aslt, acat, acut, asiz, aat, anle, aneq, afit⟩ := A
  simp only at hnle hneq
  subst hnle hneq
  try simp only at h1 h3 hr
  conv at e0 => lhs; cbv
  conv at e5 => lhs; cbv
  conv at e6 => lhs; cbv
  conv at e7 => lhs; cbv
  conv at e8 => lhs; cbv
  cbv
  rewrite [e0]
  cbv
  rewrite [h1]
  cbv
  rewrite [e5]
  cbv
  rewrite [e6]
  cbv
  rewrite [e7]
  cbv
  rewrite [e8]
  cbv
  rewrite [h3]
  cbv
  rewrite [hr]
  cbv
theorem lp_r31_t {r : Option Res} (e0 : olds.length = n) (e5 : left.length = n) (e6 : Nat.ble (Nat.succ k) n = true) (e7 : 0 + k = k) (e8 : lget left k = some (.s (.bool true))) (e9 : gone.length = u) (ea : gone ++ [.s (.int .i64 (.ofNat k))] = gone2) (eb : Nat.beq u u = true) (h1 : A.lt (.ofNat k) (.ofNat n) = true) (h3 : A.add .i64 (.ofNat k) 1 = .ofNat (Nat.succ k)) (h4 : A.fit (Nat.succ u) 8 = true)
    (hr : lpOf (envV A) 47 bd47 31 (stR31 olds left take kept gone2 (Nat.succ k)) = r) : lpOf (envV A) 47 bd47 31 (stR31 olds left take kept gone k) = r := by
  unfold stR31 at hr ⊢
  rw [lp_step (envV A) 47 (c0 := bd47) (lv := lvF47) rfl rfl]
  have hnle := hA.nleE; have hneq := hA.neqE
  rw [lp_split (lpOf (envV A) 47 bd47) 31]
  generalize lpOf (envV A) 47 bd47 31 = L31 at e0 e5 e6 e7 e8 e9 ea eb h1 h3 h4 hr ⊢
  generalize lpOf (envV A) 47 bd47 = LP
  generalize evl (envV A) = E at e0 e5 e6 e7 e8 e9 ea eb h1 h3 h4 hr ⊢
  obtain ⟨aadd, asub, amul, arem, aquo, awr, ashr, aeq, alt, ale, aseq, aslt, acat, acut, asiz, aat, anle, aneq, afit⟩ := A
  simp only at hnle hneq
  subst hnle hneq
  try simp only at h1 h3 h4 hr
  conv at e0 => lhs; cbv
  conv at e5 => lhs; cbv
  conv at e6 => lhs; cbv
  conv at e7 => lhs; cbv
  conv at e8 => lhs; cbv
  conv at e9 => lhs; cbv
  conv at ea => lhs; cbv
  conv at eb => lhs; cbv
  cbv
  rewrite [e0]
  cbv
  rewrite [h1]
  cbv
  rewrite [e5]
  cbv
  rewrite [e6]
  cbv
  rewrite [e7]
  cbv
  rewrite [e8]
  cbv
  rewrite [e9]
  cbv
  rewrite [ea]
  cbv
  rewrite [eb]
  cbv
  rewrite [h4]
  cbv
  rewrite [h3]
  cbv
  rewrite [hr]
  cbv
theorem lp_r31_end (e0 : olds.length = n) (h1 : A.lt (.ofNat k) (.ofNat n) = false) : lpOf (envV A) 47 bd47 31 (stR31 olds left take kept gone k) = some (.code (.exit 8) (stR31e olds left take kept gone k)) := by
  unfold stR31 stR31e
  rw [lp_step (envV A) 47 (c0 := bd47) (lv := lvF47) rfl rfl]
  have hnle := hA.nleE; have hneq := hA.neqE
  generalize lpOf (envV A) 47 bd47 = LP
  generalize evl (envV A) = E at e0 h1 ⊢
  obtain ⟨aadd, asub, amul, arem, aquo, awr, ashr, aeq, alt, ale, aseq, aslt, acat, acut, asiz, aat, anle, aneq, afit⟩ := A
  simp only at hnle hneq
  subst hnle hneq
  try simp only at h1
  conv at e0 => lhs; cbv
  cbv
  rewrite [e0]
  cbv
  rewrite [h1]
  cbv
end
end Go.Va
namespace Go.Va
open Go.Proofs
set_option maxRecDepth 100000
/-- which are left, as marks -/
def mkB (n : Nat) (L : List Nat) : List AV := (List.range n).map fun k => .s (.bool (L.contains k))
theorem mkB_len (n : Nat) (L : List Nat) : (mkB n L).length = n := by simp [mkB]
theorem mkB_get {n k : Nat} (L : List Nat) (h : k < n) : lget (mkB n L) k = some (.s (.bool (L.contains k))) := by
  rw [lget_get]
  simp [mkB, h]
theorem mkB_set {n k : Nat} {L L2 : List Nat} {b : Bool} (h : ∀ j, L2.contains j = if j = k then b else L.contains j) : lset (mkB n L) k (.s (.bool b)) = mkB n L2 := by
  rw [lset_eq]
  apply List.ext_getElem?
  intro j
  rw [List.getElem?_set]
  by_cases hj : j < n
  · by_cases q : k = j
    · subst q
      rw [if_pos rfl, if_pos (by rw [mkB_len]; exact hj)]
      simp only [mkB, List.getElem?_map, List.getElem?_range hj, Option.map_some]
      rw [h k, if_pos rfl]
    · rw [if_neg q]
      simp only [mkB, List.getElem?_map, List.getElem?_range hj, Option.map_some]
      rw [h j, if_neg (fun e => q e.symm)]
  · rw [List.getElem?_eq_none (l := mkB n L2) (by rw [mkB_len]; omega)]
    split
    · rw [if_neg (by rw [mkB_len]; omega)]
    · exact List.getElem?_eq_none (by rw [mkB_len]; omega)
theorem mkB_nil (n : Nat) : List.replicate n (AV.s (.bool false)) = mkB n [] := by
  apply List.ext_getElem
  · simp [mkB_len]
  · intro i h1 h2
    simp [mkB]
theorem tkP_node (kd : Int) (tag key text : ByteArray) (ats : List AtT) (ks : List WT) (o : OlT) (first : Bool) : tkP (.node kd tag key text ats ks) o first = if kd = 1 then realAr.seq o.1 tag && (realAr.seq o.2 key && (first || !(realAr.seq key ⟨#[]⟩))) else if kd = 2 then first && realAr.seq o.1 ⟨#[]⟩ else if kd = 3 then first else false := rfl
theorem s_takes (kd : Int) (tag key text : ByteArray) (ats : List AtT) (ks : List WT) (o : OlT) (first : Bool) :
    evl (envV realAr) (.call 86 [.agg (wC .imm kd tag key text (ats.map atA) (wtsA ks)), .agg [.s (.string o.1), .s (.string o.2)], .s (.bool first)] []) = some (.ret (.s (.bool (tkP (.node kd tag key text ats ks) o first))) []) := by
  rw [tkP_node]
  by_cases h1 : kd = 1
  · rw [if_pos h1]
    exact eq_takes_1 realAr realAr_ok (ats := ats.map atA) (ks := wtsA ks) (kd := kd) (tag := tag) (key := key) (text := text) (a := o.1) (b := o.2) (first := first) (h1 := heq_t h1)
  · rw [if_neg h1]
    by_cases h2 : kd = 2
    · rw [if_pos h2]
      exact eq_takes_2 realAr realAr_ok (ats := ats.map atA) (ks := wtsA ks) (kd := kd) (tag := tag) (key := key) (text := text) (a := o.1) (b := o.2) (first := first) (h1 := heq_f h1) (h2 := heq_t h2)
    · rw [if_neg h2]
      by_cases h3 : kd = 3
      · rw [if_pos h3]
        exact eq_takes_3 realAr realAr_ok (ats := ats.map atA) (ks := wtsA ks) (kd := kd) (tag := tag) (key := key) (text := text) (a := o.1) (b := o.2) (first := first) (h1 := heq_f h1) (h2 := heq_f h2) (h3 := heq_t h3)
      · rw [if_neg h3]
        exact eq_takes_o realAr realAr_ok (ats := ats.map atA) (ks := wtsA ks) (kd := kd) (tag := tag) (key := key) (text := text) (a := o.1) (b := o.2) (first := first) (h1 := heq_f h1) (h2 := heq_f h2) (h3 := heq_f h3)
/-- the elements of a sorted list, from a number on -/
structure Tail (L : List Nat) (k : Nat) (ls : List Nat) : Prop where
  sorted : ls.Pairwise (· < ·)
  ge : ∀ j ∈ ls, k ≤ j
  same : ∀ j, k ≤ j → L.contains j = ls.contains j
theorem Tail.zero {L : List Nat} (h : L.Pairwise (· < ·)) : Tail L 0 L := ⟨h, fun _ _ => Nat.zero_le _, fun _ _ => rfl⟩
theorem Tail.hit {L : List Nat} {k v : Nat} {ls : List Nat} (h : Tail L k (v :: ls)) (hv : v = k) : L.contains k = true ∧ Tail L (k + 1) ls := by
  subst hv
  have hp := List.pairwise_cons.1 h.sorted
  refine ⟨by rw [h.same v (Nat.le_refl _)]; simp, hp.2, fun j hj => hp.1 j hj, fun j hj => ?_⟩
  rw [h.same j (by omega)]
  have : (j == v) = false := by simp; omega
  rw [List.contains_cons, this, Bool.false_or]
theorem Tail.skip {L : List Nat} {k : Nat} {ls : List Nat} (h : Tail L k ls) (hv : ∀ j ∈ ls, j ≠ k) : L.contains k = false ∧ Tail L (k + 1) ls := by
  refine ⟨?_, h.sorted, fun j hj => ?_, fun j hj => h.same j (by omega)⟩
  · rw [h.same k (Nat.le_refl _)]
    cases q : ls.contains k with
    | false => rfl
    | true =>
      exact absurd rfl (hv k (by simpa using q))
  · have := h.ge j hj
    have := hv j hj
    omega
theorem Tail.cases {L : List Nat} {k : Nat} {ls : List Nat} (h : Tail L k ls) : (∃ l2, ls = k :: l2 ∧ L.contains k = true ∧ Tail L (k + 1) l2) ∨ (L.contains k = false ∧ Tail L (k + 1) ls) := by
  cases ls with
  | nil => exact .inr (h.skip (by simp))
  | cons v l2 =>
    by_cases hv : v = k
    · obtain ⟨h1, h2⟩ := h.hit hv
      exact .inl ⟨l2, by rw [hv], h1, h2⟩
    · refine .inr (h.skip fun j hj => ?_)
      have h1 := h.ge v (by simp)
      rcases List.mem_cons.1 hj with rfl | hj
      · exact hv
      · have := (List.pairwise_cons.1 h.sorted).1 j hj
        omega
def valI : Option (List Nat × Nat × List Nat) → Int
  | some (_, v, _) => .ofNat v
  | none => -1
section
variable (q : Perm) (hq : q = .full) (olds : List OlT) (ws : List WT) (hn : olds.length ≤ 1000)
include hq hn
theorem lp_r3I (W : List AV) : ∀ (m i : Nat), m + i = olds.length → lpOf (envV realAr) 47 bd47 3 (stR3 q (olds.map olA) W (mkB olds.length (List.range i)) i) = some (.code (.exit 0) (stR3e q (olds.map olA) W (mkB olds.length (List.range olds.length)) olds.length))
  | 0, i, h => by
    have : i = olds.length := by omega
    subst this
    exact lp_r3_end realAr realAr_ok q hq (olds := olds.map olA) (ws := W) (left := mkB olds.length (List.range olds.length)) (n := olds.length) (i := olds.length) (e0 := mlen olA olds) (h1 := nlt_f (Nat.le_refl _))
  | m + 1, i, h => by
    have next := lp_r3I W m (i + 1) (by omega)
    have hi : i < olds.length := by omega
    have hlt : realAr.lt (.ofNat i) (.ofNat olds.length) = true := nlt_t hi
    have hadd : realAr.add .i64 (.ofNat i) 1 = .ofNat (Nat.succ i) := ninc (by omega)
    have hset : lset (mkB olds.length (List.range i)) i (.s (.bool true)) = mkB olds.length (List.range (i + 1)) := mkB_set fun j => by
      by_cases q : j = i
      · rw [if_pos q, q]; simp
      · rw [if_neg q]
        apply Bool.eq_iff_iff.2
        simp
        omega
    exact lp_r3 realAr realAr_ok q hq (olds := olds.map olA) (ws := W) (left := mkB olds.length (List.range i)) (left2 := mkB olds.length (List.range (i + 1))) (n := olds.length) (i := i) (s := (List.range i).contains i) (e0 := mlen olA olds) (e1 := mkB_len _ _) (e2 := hble hi) (e3 := Nat.zero_add _) (e4 := hset) (e5 := mkB_get _ hi) (h1 := hlt) (h2 := hadd) (hr := next)
variable (L : List Nat) (take kept : List AV) (i : Nat) (hi : i < ws.length)
theorem lp_r14I (hw : ws[i] = ws[i]) : ∀ (m k : Nat) (ls : List Nat) (first : Bool), m + k = olds.length → Tail L k ls → (∀ j ∈ ls, j < olds.length) →
    ∃ f2 k2, lpOf (envV realAr) 47 bd47 14 (stR14 q (olds.map olA) (wtsA ws) (mkB olds.length L) take kept i (-1) first k) = some (.code (.exit 4) (stR14e q (olds.map olA) (wtsA ws) (mkB olds.length L) take kept i (valI (selP olds ws[i] ls first)) f2 k2))
  | 0, k, ls, first, h, hT, hb => by
    have hls : ls = [] := by
      cases ls with
      | nil => rfl
      | cons v l2 =>
        have h1 := hT.ge v (by simp)
        have h2 := hb v (by simp)
        omega
    subst hls
    exact ⟨first, k, lp_r14_end realAr realAr_ok q hq (olds := olds.map olA) (ws := wtsA ws) (left := mkB olds.length L) (take := take) (kept := kept) (n := olds.length) (k := k) (i := i) (z := -1) (first := first) (e0 := mlen olA olds) (h1 := nlt_f (by omega))⟩
  | m + 1, k, ls, first, h, hT, hb => by
    have hk : k < olds.length := by omega
    have hg := wts_get hi
    have hlt : realAr.lt (.ofNat k) (.ofNat olds.length) = true := nlt_t hk
    have hadd : realAr.add .i64 (.ofNat k) 1 = .ofNat (Nat.succ k) := ninc (by omega)
    have hgb := mkB_get (n := olds.length) L hk
    have hm1 : realAr.lt (-1) 0 = true := hlt_t (by decide)
    generalize hwe : ws[i] = w at hg ⊢
    rcases w with ⟨kd, tag, key, text, ats, ks⟩
    unfold wtA at hg
    rcases hT.cases with ⟨l2, rfl, hc, hT2⟩ | ⟨hc, hT2⟩
    · rw [hc] at hgb
      have ht := s_takes kd tag key text ats ks (olds.getD k (⟨#[]⟩, ⟨#[]⟩)) first
      unfold selP
      cases hs : tkP (.node kd tag key text ats ks) (olds.getD k (⟨#[]⟩, ⟨#[]⟩)) first with
      | true =>
        rw [hs] at ht
        rw [if_pos rfl]
        by_cases hk2 : k + 1 < olds.length
        · have hlt2 : realAr.lt (.ofNat (k + 1)) (.ofNat olds.length) = true := nlt_t hk2
          have next := lp_r14_x realAr realAr_ok q hq (olds := olds.map olA) (ws := wtsA ws) (left := mkB olds.length L) (take := take) (kept := kept) (n := olds.length) (k := k + 1) (i := i) (z := .ofNat k) (first := false) (e0 := mlen olA olds) (h1 := hlt2) (h2 := hlt_f (Int.natCast_nonneg k))
          exact ⟨false, k + 1, lp_r14_hit realAr realAr_ok q hq (olds := olds.map olA) (ws := wtsA ws) (left := mkB olds.length L) (take := take) (kept := kept) (ats := ats.map atA) (ks := wtsA ks) (n := olds.length) (m := ws.length) (k := k) (i := i) (kd := kd) (tag := tag) (key := key) (text := text) (a := (olds.getD k (⟨#[]⟩, ⟨#[]⟩)).1) (b := (olds.getD k (⟨#[]⟩, ⟨#[]⟩)).2) (first := first) (e0 := mlen olA olds) (e1 := wts_len ws) (e2 := hg) (e3 := hble hi) (e4 := Nat.zero_add _) (e5 := mkB_len _ _) (e6 := hble hk) (e7 := Nat.zero_add _) (h1 := hlt) (h2 := hadd) (e8 := hgb) (e9 := old_get hk) (h3 := hm1) (h4 := ht) (hr := next)⟩
        · have hlt2 : realAr.lt (.ofNat (k + 1)) (.ofNat olds.length) = false := nlt_f (by omega)
          have next := lp_r14_end realAr realAr_ok q hq (olds := olds.map olA) (ws := wtsA ws) (left := mkB olds.length L) (take := take) (kept := kept) (n := olds.length) (k := k + 1) (i := i) (z := .ofNat k) (first := false) (e0 := mlen olA olds) (h1 := hlt2)
          exact ⟨false, k + 1, lp_r14_hit realAr realAr_ok q hq (olds := olds.map olA) (ws := wtsA ws) (left := mkB olds.length L) (take := take) (kept := kept) (ats := ats.map atA) (ks := wtsA ks) (n := olds.length) (m := ws.length) (k := k) (i := i) (kd := kd) (tag := tag) (key := key) (text := text) (a := (olds.getD k (⟨#[]⟩, ⟨#[]⟩)).1) (b := (olds.getD k (⟨#[]⟩, ⟨#[]⟩)).2) (first := first) (e0 := mlen olA olds) (e1 := wts_len ws) (e2 := hg) (e3 := hble hi) (e4 := Nat.zero_add _) (e5 := mkB_len _ _) (e6 := hble hk) (e7 := Nat.zero_add _) (h1 := hlt) (h2 := hadd) (e8 := hgb) (e9 := old_get hk) (h3 := hm1) (h4 := ht) (hr := next)⟩
      | false =>
        rw [hs] at ht
        rw [if_neg (by simp)]
        obtain ⟨f2, k2, next⟩ := lp_r14I hw m (k + 1) l2 false (by omega) hT2 (fun j hj => hb j (by simp [hj]))
        rw [hwe] at next
        refine ⟨f2, k2, lp_r14_miss realAr realAr_ok q hq (olds := olds.map olA) (ws := wtsA ws) (left := mkB olds.length L) (take := take) (kept := kept) (ats := ats.map atA) (ks := wtsA ks) (n := olds.length) (m := ws.length) (k := k) (i := i) (kd := kd) (tag := tag) (key := key) (text := text) (a := (olds.getD k (⟨#[]⟩, ⟨#[]⟩)).1) (b := (olds.getD k (⟨#[]⟩, ⟨#[]⟩)).2) (first := first) (e0 := mlen olA olds) (e1 := wts_len ws) (e2 := hg) (e3 := hble hi) (e4 := Nat.zero_add _) (e5 := mkB_len _ _) (e6 := hble hk) (e7 := Nat.zero_add _) (h1 := hlt) (h2 := hadd) (e8 := hgb) (e9 := old_get hk) (h3 := hm1) (h4 := ht) (hr := ?_)⟩
        rw [next]
        cases hsel : selP olds (.node kd tag key text ats ks) l2 false with
        | none => rfl
        | some p => rfl
    · rw [hc] at hgb
      obtain ⟨f2, k2, next⟩ := lp_r14I hw m (k + 1) ls first (by omega) hT2 hb
      rw [hwe] at next
      exact ⟨f2, k2, lp_r14_skip realAr realAr_ok q hq (olds := olds.map olA) (ws := wtsA ws) (left := mkB olds.length L) (take := take) (kept := kept) (ats := ats.map atA) (ks := wtsA ks) (n := olds.length) (m := ws.length) (k := k) (i := i) (kd := kd) (tag := tag) (key := key) (text := text) (first := first) (e0 := mlen olA olds) (e1 := wts_len ws) (e2 := hg) (e3 := hble hi) (e4 := Nat.zero_add _) (e5 := mkB_len _ _) (e6 := hble hk) (e7 := Nat.zero_add _) (h1 := hlt) (h2 := hadd) (e8 := hgb) (h3 := hm1) (hr := next)⟩
end
end Go.Va
namespace Go.Va
open Go.Proofs
set_option maxRecDepth 100000
section
variable (q : Perm) (hq : q = .full) (olds : List OlT) (ws : List WT) (hn : olds.length ≤ 1000)
include hq hn
theorem lp_r24I (take : List AV) (i : Nat) (hi : i < ws.length) (h4 : kdW ws[i] = 4) : ∀ (m k : Nat) (L kept : List Nat), m + k = olds.length → Tail L k L → (∀ j ∈ L, j < olds.length) → kept.length + L.length ≤ 1000 →
    lpOf (envV realAr) 47 bd47 24 (stR24 q (olds.map olA) (wtsA ws) (mkB olds.length L) take (kept.map natA) i k) = some (.code (.exit 6) (stR24e q (olds.map olA) (wtsA ws) (mkB olds.length []) take ((kept ++ L).map natA) i olds.length))
  | 0, k, L, kept, h, hT, hb, _ => by
    have hls : L = [] := by
      cases L with
      | nil => rfl
      | cons v l2 =>
        have h1 := hT.ge v (by simp)
        have h2 := hb v (by simp)
        omega
    subst hls
    have : k = olds.length := by omega
    subst this
    rw [List.append_nil]
    exact lp_r24_end realAr realAr_ok q hq (olds := olds.map olA) (ws := wtsA ws) (left := mkB olds.length []) (take := take) (kept := kept.map natA) (n := olds.length) (k := olds.length) (i := i) (e0 := mlen olA olds) (h1 := nlt_f (Nat.le_refl _))
  | m + 1, k, L, kept, h, hT, hb, hkl => by
    have hk : k < olds.length := by omega
    have hg := wts_get hi
    have hlt : realAr.lt (.ofNat k) (.ofNat olds.length) = true := nlt_t hk
    have hadd : realAr.add .i64 (.ofNat k) 1 = .ofNat (Nat.succ k) := ninc (by omega)
    have hgb := mkB_get (n := olds.length) L hk
    have h4' := h4
    generalize hwe : ws[i] = w at hg h4'
    rcases w with ⟨kd, tag, key, text, ats, ks⟩
    unfold wtA at hg
    simp only [kdW] at h4'
    rcases hT.cases with ⟨l2, rfl, hc, hT2⟩ | ⟨hc, hT2⟩
    · rw [hc] at hgb
      have hself : Tail l2 (k + 1) l2 := ⟨hT2.sorted, hT2.ge, fun _ _ => rfl⟩
      have hnot : l2.contains k = false := by
        cases q : l2.contains k with
        | false => rfl
        | true =>
          have := hT2.ge k (by simpa using q)
          omega
      have hset : lset (mkB olds.length (k :: l2)) k (.s (.bool false)) = mkB olds.length l2 := mkB_set fun j => by
        by_cases q : j = k
        · rw [if_pos q, q, hnot]
        · rw [if_neg q, List.contains_cons]
          have : (j == k) = false := by simpa using q
          rw [this, Bool.false_or]
      simp only [List.length_cons] at hkl
      have next := lp_r24I take i hi h4 m (k + 1) l2 (kept ++ [k]) (by omega) hself (fun j hj => hb j (by simp [hj])) (by rw [List.length_append, List.length_singleton]; omega)
      rw [List.append_assoc, List.singleton_append] at next
      exact lp_r24_t realAr realAr_ok q hq (olds := olds.map olA) (ws := wtsA ws) (left := mkB olds.length (k :: l2)) (left2 := mkB olds.length l2) (take := take) (kept := kept.map natA) (kept2 := (kept ++ [k]).map natA) (ats := ats.map atA) (ks := wtsA ks) (n := olds.length) (m := ws.length) (k := k) (i := i) (u := kept.length) (kd := kd) (tag := tag) (key := key) (text := text) (e0 := mlen olA olds) (e1 := wts_len ws) (e2 := hg) (e3 := hble hi) (e4 := Nat.zero_add _) (e5 := mkB_len _ _) (e6 := hble hk) (e7 := Nat.zero_add _) (e8 := hgb) (e9 := mlen natA kept) (ea := msnoc natA kept k) (eb := hbeq _) (ec := hset) (h1 := hlt) (h2 := heq_t h4') (h3 := hadd) (h4 := hfit (by omega)) (hr := next)
    · rw [hc] at hgb
      have hself : Tail L (k + 1) L := ⟨hT2.sorted, hT2.ge, fun _ _ => rfl⟩
      have next := lp_r24I take i hi h4 m (k + 1) L kept (by omega) hself hb hkl
      exact lp_r24_f realAr realAr_ok q hq (olds := olds.map olA) (ws := wtsA ws) (left := mkB olds.length L) (take := take) (kept := kept.map natA) (ats := ats.map atA) (ks := wtsA ks) (n := olds.length) (m := ws.length) (k := k) (i := i) (kd := kd) (tag := tag) (key := key) (text := text) (e0 := mlen olA olds) (e1 := wts_len ws) (e2 := hg) (e3 := hble hi) (e4 := Nat.zero_add _) (e5 := mkB_len _ _) (e6 := hble hk) (e7 := Nat.zero_add _) (e8 := hgb) (h1 := hlt) (h2 := heq_t h4') (h3 := hadd) (hr := next)
/-- what wants no All -/
theorem lp_r24N (take kept left : List AV) (i : Nat) (hi : i < ws.length) (h4 : kdW ws[i] ≠ 4) : lpOf (envV realAr) 47 bd47 24 (stR24 q (olds.map olA) (wtsA ws) left take kept i 0) = some (.code (.exit 6) (stR24e q (olds.map olA) (wtsA ws) left take kept i 0)) := by
  have hg := wts_get hi
  by_cases hk : 0 < olds.length
  · generalize hwe : ws[i] = w at hg h4
    rcases w with ⟨kd, tag, key, text, ats, ks⟩
    unfold wtA at hg
    simp only [kdW] at h4
    have hlt : realAr.lt (.ofNat 0) (.ofNat olds.length) = true := nlt_t hk
    exact lp_r24_x realAr realAr_ok q hq (olds := olds.map olA) (ws := wtsA ws) (left := left) (take := take) (kept := kept) (ats := ats.map atA) (ks := wtsA ks) (n := olds.length) (m := ws.length) (k := 0) (i := i) (kd := kd) (tag := tag) (key := key) (text := text) (e0 := mlen olA olds) (e1 := wts_len ws) (e2 := hg) (e3 := hble hi) (e4 := Nat.zero_add _) (h1 := hlt) (h2 := heq_f h4)
  · exact lp_r24_end realAr realAr_ok q hq (olds := olds.map olA) (ws := wtsA ws) (left := left) (take := take) (kept := kept) (n := olds.length) (k := 0) (i := i) (e0 := mlen olA olds) (h1 := nlt_f (by omega))
theorem lp_r31I (take kept : List AV) (L : List Nat) : ∀ (m k : Nat) (ls gone : List Nat), m + k = olds.length → Tail L k ls → (∀ j ∈ ls, j < olds.length) → gone.length + ls.length ≤ 1000 →
    lpOf (envV realAr) 47 bd47 31 (stR31 (olds.map olA) (mkB olds.length L) take kept (gone.map natA) k) = some (.code (.exit 8) (stR31e (olds.map olA) (mkB olds.length L) take kept ((gone ++ ls).map natA) olds.length))
  | 0, k, ls, gone, h, hT, hb, _ => by
    have hls : ls = [] := by
      cases ls with
      | nil => rfl
      | cons v l2 =>
        have h1 := hT.ge v (by simp)
        have h2 := hb v (by simp)
        omega
    subst hls
    have : k = olds.length := by omega
    subst this
    rw [List.append_nil]
    exact lp_r31_end realAr realAr_ok (olds := olds.map olA) (left := mkB olds.length L) (take := take) (kept := kept) (gone := gone.map natA) (n := olds.length) (k := olds.length) (e0 := mlen olA olds) (h1 := nlt_f (Nat.le_refl _))
  | m + 1, k, ls, gone, h, hT, hb, hkl => by
    have hk : k < olds.length := by omega
    have hlt : realAr.lt (.ofNat k) (.ofNat olds.length) = true := nlt_t hk
    have hadd : realAr.add .i64 (.ofNat k) 1 = .ofNat (Nat.succ k) := ninc (by omega)
    have hgb := mkB_get (n := olds.length) L hk
    rcases hT.cases with ⟨l2, rfl, hc, hT2⟩ | ⟨hc, hT2⟩
    · rw [hc] at hgb
      simp only [List.length_cons] at hkl
      have next := lp_r31I take kept L m (k + 1) l2 (gone ++ [k]) (by omega) hT2 (fun j hj => hb j (by simp [hj])) (by rw [List.length_append, List.length_singleton]; omega)
      rw [List.append_assoc, List.singleton_append] at next
      exact lp_r31_t realAr realAr_ok (olds := olds.map olA) (left := mkB olds.length L) (take := take) (kept := kept) (gone := gone.map natA) (gone2 := (gone ++ [k]).map natA) (n := olds.length) (k := k) (u := gone.length) (e0 := mlen olA olds) (e5 := mkB_len _ _) (e6 := hble hk) (e7 := Nat.zero_add _) (e8 := hgb) (e9 := mlen natA gone) (ea := msnoc natA gone k) (eb := hbeq _) (h1 := hlt) (h3 := hadd) (h4 := hfit (by omega)) (hr := next)
    · rw [hc] at hgb
      have next := lp_r31I take kept L m (k + 1) ls gone (by omega) hT2 hb hkl
      exact lp_r31_f realAr realAr_ok (olds := olds.map olA) (left := mkB olds.length L) (take := take) (kept := kept) (gone := gone.map natA) (n := olds.length) (k := k) (e0 := mlen olA olds) (e5 := mkB_len _ _) (e6 := hble hk) (e7 := Nat.zero_add _) (e8 := hgb) (h1 := hlt) (h3 := hadd) (hr := next)
theorem lp_r9I (hw : ws.length ≤ 1000) : ∀ (rest done : List WT) (s : MSt), ws = done ++ rest → s.1.Sublist (List.range olds.length) → s.2.1.length = done.length → s.2.2.length + s.1.length ≤ 1000 →
    lpOf (envV realAr) 47 bd47 9 (stR9 q (olds.map olA) (wtsA ws) (mkB olds.length s.1) (s.2.1.map zA) (s.2.2.map natA) done.length) = some (.code (.exit 2) (stR9e q (olds.map olA) (wtsA ws) (mkB olds.length (mRun olds rest s).1) ((mRun olds rest s).2.1.map zA) ((mRun olds rest s).2.2.map natA) ws.length)) ∧ (mRun olds rest s).1.Sublist (List.range olds.length)
  | [], done, s, h, hs, _, _ => by
    have : ws.length = done.length := by rw [h, List.append_nil]
    rw [this]
    exact ⟨lp_r9_end realAr realAr_ok q hq (olds := olds.map olA) (ws := wtsA ws) (left := mkB olds.length s.1) (take := s.2.1.map zA) (kept := s.2.2.map natA) (m := done.length) (i := done.length) (e1 := by rw [wts_len, this]) (h1 := nlt_f (Nat.le_refl _)), hs⟩
  | w :: rest, done, s, h, hs, ht, hk => by
    have hi : done.length < ws.length := by rw [h]; simp
    have hwi : ws[done.length] = w := by simp [h]
    have hlt : realAr.lt (.ofNat done.length) (.ofNat ws.length) = true := nlt_t hi
    have hadd : realAr.add .i64 (.ofNat done.length) 1 = .ofNat (Nat.succ done.length) := ninc (by omega)
    obtain ⟨left, take, kept⟩ := s
    simp only at hs ht hk ⊢
    have hsort : left.Pairwise (· < ·) := List.Pairwise.sublist hs List.pairwise_lt_range
    have hbd : ∀ j ∈ left, j < olds.length := fun j hj => by have := hs.subset hj; simpa using this
    have ih := fun s2 h1 h2 h3 => lp_r9I hw rest (done ++ [w]) s2 (by rw [h]; simp) h1 (by rw [List.length_append, List.length_singleton]; exact h2) h3
    rw [List.length_append, List.length_singleton] at ih
    have hrun : mRun olds (w :: rest) (left, take, kept) = mRun olds rest (mStep olds (left, take, kept) w) := rfl
    rw [hrun]
    obtain ⟨f2, k2, h14⟩ := lp_r14I q hq olds ws hn left (take.map zA) (kept.map natA) done.length hi rfl olds.length 0 left true (by omega) (Tail.zero hsort) hbd
    rw [hwi] at h14
    have hm1 : take.map zA ++ [.s (.int .i64 (-1))] = (take ++ [(-1 : Int)]).map zA := msnoc zA take (-1)
    unfold mStep
    simp only
    cases hsel : selP olds w left true with
    | none =>
      rw [hsel] at h14
      simp only
      by_cases h4 : kdW w = 4
      · rw [if_pos h4]
        obtain ⟨n1, n2⟩ := ih ([], take ++ [-1], kept ++ left) (List.nil_sublist _) (by simp [ht]) (by simp; omega)
        have h24 := lp_r24I q hq olds ws hn ((take ++ [(-1 : Int)]).map zA) done.length hi (by rw [hwi]; exact h4) olds.length 0 left kept (by omega) (Tail.zero hsort) hbd hk
        exact ⟨lp_r9_no realAr realAr_ok q hq (olds := olds.map olA) (ws := wtsA ws) (left := mkB olds.length left) (left2 := mkB olds.length []) (take := take.map zA) (take2 := (take ++ [(-1 : Int)]).map zA) (kept := kept.map natA) (kept2 := (kept ++ left).map natA) (m := ws.length) (k := k2) (i := done.length) (j := olds.length) (t := done.length) (first := f2) (e1 := wts_len ws) (e2 := by rw [List.length_map, ht]) (e3 := hm1) (e4 := hbeq _) (h1 := hlt) (h2 := hadd) (h3 := hfit (by omega)) (h4 := hle_f (by decide)) (h5 := h14) (h6 := h24) (hr := n1), n2⟩
      · rw [if_neg h4]
        obtain ⟨n1, n2⟩ := ih (left, take ++ [-1], kept) hs (by simp [ht]) hk
        have h24 := lp_r24N q hq olds ws hn ((take ++ [(-1 : Int)]).map zA) (kept.map natA) (mkB olds.length left) done.length hi (by rw [hwi]; exact h4)
        exact ⟨lp_r9_no realAr realAr_ok q hq (olds := olds.map olA) (ws := wtsA ws) (left := mkB olds.length left) (left2 := mkB olds.length left) (take := take.map zA) (take2 := (take ++ [(-1 : Int)]).map zA) (kept := kept.map natA) (kept2 := kept.map natA) (m := ws.length) (k := k2) (i := done.length) (j := 0) (t := done.length) (first := f2) (e1 := wts_len ws) (e2 := by rw [List.length_map, ht]) (e3 := hm1) (e4 := hbeq _) (h1 := hlt) (h2 := hadd) (h3 := hfit (by omega)) (h4 := hle_f (by decide)) (h5 := h14) (h6 := h24) (hr := n1), n2⟩
    | some p =>
      obtain ⟨pre, v, post⟩ := p
      rw [hsel] at h14
      simp only
      have h4 : kdW w ≠ 4 := by
        intro e
        rw [selP_4 e] at hsel
        cases hsel
      have hle := selP_eq hsel
      have hsub : (pre ++ post).Sublist left := by
        rw [hle]
        exact List.Sublist.append (List.Sublist.refl _) (List.sublist_cons_self _ _)
      have hv : v < olds.length := hbd v (by rw [hle]; simp)
      have hset : lset (mkB olds.length left) v (.s (.bool false)) = mkB olds.length (pre ++ post) := mkB_set fun j => by
        have hp := hsort
        rw [hle, List.pairwise_append] at hp
        obtain ⟨-, p2, p3⟩ := hp
        have p4 := List.pairwise_cons.1 p2
        by_cases q : j = v
        · rw [if_pos q, q]
          cases e : (pre ++ post).contains v with
          | false => rfl
          | true =>
            have : v ∈ pre ++ post := by simpa using e
            rcases List.mem_append.1 this with r | r
            · have := p3 v r v (by simp)
              omega
            · have := p4.1 v r
              omega
        · rw [if_neg q, hle]
          apply Bool.eq_iff_iff.2
          simp [q]
      obtain ⟨n1, n2⟩ := ih (pre ++ post, take ++ [(v : Int)], kept) (hsub.trans hs) (by simp [ht]) (by rw [hle] at hk; simp at hk ⊢; omega)
      have h24 := lp_r24N q hq olds ws hn ((take ++ [(v : Int)]).map zA) (kept.map natA) (mkB olds.length (pre ++ post)) done.length hi (by rw [hwi]; exact h4)
      exact ⟨lp_r9_hit realAr realAr_ok q hq (olds := olds.map olA) (ws := wtsA ws) (left := mkB olds.length left) (left2 := mkB olds.length (pre ++ post)) (left3 := mkB olds.length (pre ++ post)) (take := take.map zA) (take2 := (take ++ [(v : Int)]).map zA) (kept := kept.map natA) (kept2 := kept.map natA) (n := olds.length) (m := ws.length) (k := k2) (i := done.length) (j := 0) (t := done.length) (v := v) (first := f2) (s := left.contains v) (e1 := wts_len ws) (e2 := by rw [List.length_map, ht]) (e3 := msnoc zA take (v : Int)) (e4 := hbeq _) (e5 := mkB_len _ _) (e6 := hble hv) (e7 := Nat.zero_add _) (e8 := hset) (e9 := mkB_get _ hv) (h1 := hlt) (h2 := hadd) (h3 := hfit (by omega)) (h4 := hle_t (Int.natCast_nonneg _)) (h5 := h14) (h6 := h24) (hr := n1), n2⟩
end
end Go.Va
namespace Go.Va
open Go.Proofs
set_option maxRecDepth 100000
set_option maxHeartbeats 40000000
section
variable (A : Ar) (hA : ArOk A) (q : Perm) (hq : q = .full) (olds ws left left2 left3 ats ks take take2 kept kept2 gone gone2 : List AV) (n m k j i t u v : Nat) (kd z : Int) (tag key text a b : ByteArray) (first first2 s : Bool)
include hA
include hq
theorem ev_r16 (e0 : olds.length = n) (e1 : Nat.beq n n = true) (eb : List.replicate n (AV.s (.bool false)) = left) (h0 : A.fit n 1 = true)
    (h1 : lpOf (envV A) 47 bd47 3 (stR3 q olds ws left 0) = some (.code (.exit 0) (stR3e q olds ws left2 i)))
    (h2 : lpOf (envV A) 47 bd47 9 (stR9 q olds ws left2 [] [] 0) = some (.code (.exit 2) (stR9e q olds ws left3 take kept j)))
    (h3 : lpOf (envV A) 47 bd47 31 (stR31 olds left3 take kept [] 0) = some (.code (.exit 8) (stR31e olds left3 take kept gone k))) :
    evc (envV A) (evl (envV A)) (lpOf (envV A) 47 bd47) 47 lvF47 (putN 8 bd47) { n := 113, k := 0, fr := initFr 0 [.sl 2 olds .ro, .sl 6 ws q], O := [] } = some (.code .normal (stR31e olds left3 take kept gone k)) := by
  unfold stR3 stR3e at h1
  unfold stR9 stR9e at h2
  unfold stR31 at h3
  unfold stR31e at h3 ⊢
  simp only [show Int.ofNat 0 = 0 from rfl] at h1 h2 h3
  subst hq
  have hnle := hA.nleE; have hneq := hA.neqE
  rw [lp_split (lpOf (envV A) 47 bd47) 3]
  generalize lpOf (envV A) 47 bd47 3 = L3 at e0 e1 eb h0 h1 h2 h3 ⊢
  rw [lp_split (lpOf (envV A) 47 bd47) 9]
  generalize lpOf (envV A) 47 bd47 9 = L9 at e0 e1 eb h0 h1 h2 h3 ⊢
  rw [lp_split (lpOf (envV A) 47 bd47) 31]
  generalize lpOf (envV A) 47 bd47 31 = L31 at e0 e1 eb h0 h1 h2 h3 ⊢
  generalize lpOf (envV A) 47 bd47 = LP
  generalize evl (envV A) = E at e0 e1 eb h0 h1 h2 h3 ⊢
  obtain ⟨aadd, asub, amul, arem, aquo, awr, ashr, aeq, alt, ale, aseq, aslt, acat, acut, asiz, aat, anle, aneq, afit⟩ := A
  simp only at hnle hneq
  subst hnle hneq
  try simp only at h0 h1 h2 h3
  conv at e0 => lhs; cbv
  conv at e1 => lhs; cbv
  conv at eb => lhs; cbv
  cbv
  rewrite [e0]
  cbv
  rewrite [e1]
  cbv
  rewrite [eb]
  cbv
  rewrite [h0]
  cbv
  rewrite [h1]
  cbv
  rewrite [h2]
  cbv
  rewrite [h3]
  cbv
end
noncomputable def o35 : Array Oper := match tailN 8 bd47 with
  | .seq (.region _ o _) _ => o
  | _ => #[]
def fr35 (olds left3 take kept gone : List AV) (k : Nat) : Fr := [(6, .al 1 (.slot 16) 0 gone.length), (5, .al 1 (.slot 10) 0 kept.length), (4, .al 1 (.slot 9) 0 take.length), (112, .al 1 (.slot 16) 0 gone.length), (111, .al 1 (.slot 10) 0 kept.length), (110, .al 1 (.slot 9) 0 take.length), (0, .sl 2 olds .ro), (7, .sl 1 left3 .full), (9, .sl 1 take .full), (10, .sl 1 kept .full), (16, .sl 1 gone .full), (17, .s (.int .i64 (.ofNat k))), (99, .s (.bool false))]
theorem evr35 (E : Task → Option Res) (olds left3 take kept gone : List AV) (k : Nat) : evr (envV realAr) E o35 o35.toList (stR31e olds left3 take kept gone k) = some { n := 113, k := 0, fr := fr35 olds left3 take kept gone k, O := [] } := rfl
theorem ad4 (olds left3 take kept gone : List AV) (k : Nat) : adopt1 realAr [4, 5, 6] { n := 113, k := 0, fr := fr35 olds left3 take kept gone k, O := [] } 4 = { n := 113, k := 0, fr := (4, .sl 1 take .full) :: (9, .gone) :: fr35 olds left3 take kept gone k, O := [] } := by
  show (bif Nat.beq 0 0 && realAr.nle take.length take.length && Nat.beq (countAl 9 { n := 113, k := 0, fr := fr35 olds left3 take kept gone k, O := [] } [4, 5, 6]) 1 then dput { n := 113, k := 0, fr := (9, .gone) :: fr35 olds left3 take kept gone k, O := [] } (some 4) (.sl 1 (take.take take.length) .full) else _) = _
  rw [show realAr.nle take.length take.length = true from (realAr_ok.nle _ _).trans (decide_eq_true (Nat.le_refl _)), List.take_length]
  rfl
theorem ad5 (olds left3 take kept gone : List AV) (k : Nat) : adopt1 realAr [4, 5, 6] { n := 113, k := 0, fr := (4, .sl 1 take .full) :: (9, .gone) :: fr35 olds left3 take kept gone k, O := [] } 5 = { n := 113, k := 0, fr := (5, .sl 1 kept .full) :: (10, .gone) :: (4, .sl 1 take .full) :: (9, .gone) :: fr35 olds left3 take kept gone k, O := [] } := by
  show (bif Nat.beq 0 0 && realAr.nle kept.length kept.length && Nat.beq (countAl 10 { n := 113, k := 0, fr := (4, .sl 1 take .full) :: (9, .gone) :: fr35 olds left3 take kept gone k, O := [] } [4, 5, 6]) 1 then dput { n := 113, k := 0, fr := (10, .gone) :: (4, .sl 1 take .full) :: (9, .gone) :: fr35 olds left3 take kept gone k, O := [] } (some 5) (.sl 1 (kept.take kept.length) .full) else _) = _
  rw [show realAr.nle kept.length kept.length = true from (realAr_ok.nle _ _).trans (decide_eq_true (Nat.le_refl _)), List.take_length]
  rfl
theorem ad6 (olds left3 take kept gone : List AV) (k : Nat) : adopt1 realAr [4, 5, 6] { n := 113, k := 0, fr := (5, .sl 1 kept .full) :: (10, .gone) :: (4, .sl 1 take .full) :: (9, .gone) :: fr35 olds left3 take kept gone k, O := [] } 6 = { n := 113, k := 0, fr := (6, .sl 1 gone .full) :: (16, .gone) :: (5, .sl 1 kept .full) :: (10, .gone) :: (4, .sl 1 take .full) :: (9, .gone) :: fr35 olds left3 take kept gone k, O := [] } := by
  show (bif Nat.beq 0 0 && realAr.nle gone.length gone.length && Nat.beq (countAl 16 { n := 113, k := 0, fr := (5, .sl 1 kept .full) :: (10, .gone) :: (4, .sl 1 take .full) :: (9, .gone) :: fr35 olds left3 take kept gone k, O := [] } [4, 5, 6]) 1 then dput { n := 113, k := 0, fr := (16, .gone) :: (5, .sl 1 kept .full) :: (10, .gone) :: (4, .sl 1 take .full) :: (9, .gone) :: fr35 olds left3 take kept gone k, O := [] } (some 6) (.sl 1 (gone.take gone.length) .full) else _) = _
  rw [show realAr.nle gone.length gone.length = true from (realAr_ok.nle _ _).trans (decide_eq_true (Nat.le_refl _)), List.take_length]
  rfl
theorem evc35 (E : Task → Option Res) (LP : Nat → St → Option Res) (olds left3 take kept gone : List AV) (k : Nat) :
    evc (envV realAr) E LP 47 lvF47 (tailN 8 bd47) (stR31e olds left3 take kept gone k) = some (.code .ret { n := 113, k := 0, fr := [(4, .sl 1 take .full), (5, .sl 1 kept .full), (6, .sl 1 gone .full)], O := [] }) := by
  rw [show tailN 8 bd47 = .seq (.region 35 o35 false) .ret from rfl]
  simp only [evc]
  rw [evr35]
  simp only
  rw [show lvF47 35 = [4, 5, 6] from rfl]
  unfold endRegion
  simp only [adopt]
  rw [show (envV realAr).A = realAr from rfl, ad4, ad5, ad6]
  rfl
theorem eq_r16 (q : Perm) (hq : q = .full) (olds ws left left2 left3 take kept gone : List AV) (n i j k : Nat) (e0 : olds.length = n) (e1 : Nat.beq n n = true) (eb : List.replicate n (AV.s (.bool false)) = left) (h0 : realAr.fit n 1 = true)
    (h1 : lpOf (envV realAr) 47 bd47 3 (stR3 q olds ws left 0) = some (.code (.exit 0) (stR3e q olds ws left2 i)))
    (h2 : lpOf (envV realAr) 47 bd47 9 (stR9 q olds ws left2 [] [] 0) = some (.code (.exit 2) (stR9e q olds ws left3 take kept j)))
    (h3 : lpOf (envV realAr) 47 bd47 31 (stR31 olds left3 take kept [] 0) = some (.code (.exit 8) (stR31e olds left3 take kept gone k))) :
    evl (envV realAr) (.call 47 [.sl 2 olds .ro, .sl 6 ws q] []) = some (.ret (.tup [.sl 1 take .full, .sl 1 kept .full, .sl 1 gone .full]) []) := by
  have hP := ev_r16 realAr realAr_ok q hq (olds := olds) (ws := ws) (left := left) (left2 := left2) (left3 := left3) (take := take) (kept := kept) (gone := gone) (n := n) (i := i) (j := j) (k := k) (e0 := e0) (e1 := e1) (eb := eb) (h0 := h0) (h1 := h1) (h2 := h2) (h3 := h3)
  rw [evl_fn (envV realAr) 47 _ _ (fn := Try.f47) (c := bd47) (lv := lvF47) rfl rfl rfl rfl rfl rfl, evc_put _ _ _ _ _ 8 _ _ rfl]
  rw [show ({ n := Try.f47.ntmps, k := List.length ([] : Seg), fr := initFr 0 [.sl 2 olds .ro, .sl 6 ws q], O := [] } : St) = { n := 113, k := 0, fr := initFr 0 [.sl 2 olds .ro, .sl 6 ws q], O := [] } from rfl, hP]
  simp only
  rw [evc35]
  rfl
end Go.Va
