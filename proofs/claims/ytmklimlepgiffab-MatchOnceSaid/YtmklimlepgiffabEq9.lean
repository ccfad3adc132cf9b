/- The functions that the statement reaches, by equations: no statement of its own. -/
import Derived.Test.YtmklimlepgiffabEq8
set_option linter.unusedVariables false
set_option linter.unusedSimpArgs false
set_option linter.unusedSectionVars false
namespace Go.Va
open Go.Proofs
set_option maxRecDepth 100000
set_option maxHeartbeats 4000000
def wC (p : Perm) (k : Int) (tag key text : ByteArray) (ats ks : List AV) : List AV := [.s (.int .i64 k), .s (.string tag), .s (.string key), .s (.string text), .sl 3 ats p, .sl 6 ks p]
def stOn (xs ats : List AV) (o : Int) (a b : ByteArray) : St := { n := 74, k := 0, fr := [(0, .sl 3 xs .imm), (2, .ptr 0 0), (4, .ptr 1 0), (5, .ptr 2 0)], O := [wC .full 0 ⟨#[]⟩ ⟨#[]⟩ ⟨#[]⟩ [] [], [.s (.int .i64 o), .s (.string a), .s (.string b)], wC .full 1 a b ⟨#[]⟩ ats []] }
def stOne (xs ats : List AV) (o : Int) (a b : ByteArray) : St := { n := 74, k := 0, fr := [(0, .sl 3 xs .imm), (2, .ptr 0 0), (4, .ptr 1 0), (5, .ptr 2 0), (41, .s (.bool false))], O := [wC .full 0 ⟨#[]⟩ ⟨#[]⟩ ⟨#[]⟩ [] [], [.s (.int .i64 o), .s (.string a), .s (.string b)], wC .full 1 a b ⟨#[]⟩ ats []] }
def stSm (xs out : List AV) : St := { n := 31, k := 0, fr := [(0, .sl 3 xs .imm), (4, .sl 6 out .full)], O := [] }
def stSme (xs out : List AV) : St := { n := 31, k := 0, fr := [(0, .sl 3 xs .imm), (4, .sl 6 out .full), (15, .s (.bool false))], O := [] }
section
variable (A : Ar) (hA : ArOk A) (xs xs2 xs3 out out2 ats ats2 ks : List AV) (n m k t : Nat) (o o2 : Int) (a b a2 b2 tag key text : ByteArray)
include hA
theorem eq_one_text (e0 : lget xs 0 = some (.agg [.s (.int .i64 o), .s (.string a), .s (.string b)])) (e1 : xs.length = Nat.succ n) (e2 : lcut xs 1 n = xs2) (e3 : Nat.ble (Nat.succ n) (Nat.succ n) = true)
    (h1 : A.eq o 4 = true) : evl (envV A) (.call 109 [.sl 3 xs .imm] []) = some (.ret (.tup [.agg (wC .imm 2 ⟨#[]⟩ ⟨#[]⟩ a [] []), .sl 3 xs2 .imm]) []) := by
  unfold wC
  rw [evl_fn (envV A) 109 _ _ (fn := Try.f109) (c := bd109) (lv := lvF109) rfl rfl rfl rfl rfl rfl]
  have hnle := hA.nleE; have hneq := hA.neqE
  have klt := hA.lt; have kle := hA.le; have keq := hA.eq; have knle := hA.nle; have kneq := hA.neq
  generalize lpOf (envV A) 109 bd109 = LP
  generalize evl (envV A) = E at e0 e1 e2 e3 h1 ⊢
  obtain ⟨aadd, asub, amul, arem, aquo, awr, ashr, aeq, alt, ale, aseq, aslt, acat, acut, asiz, aat, anle, aneq, afit⟩ := A
  simp only at hnle hneq
  subst hnle hneq
  simp only at klt kle keq knle kneq
  try simp only at h1
  conv at e0 => lhs; cbv
  conv at e1 => lhs; cbv
  conv at e2 => lhs; cbv
  conv at e3 => lhs; cbv
  cbv
  rewrite [e0]
  cbv
  rewrite [e1]
  cbv
  rewrite [e3]
  cbv
  rewrite [e2]
  cbv
  rewrite [h1]
  cbv
theorem eq_one_node (e0 : lget xs 0 = some (.agg [.s (.int .i64 o), .s (.string a), .s (.string b)])) (e1 : xs.length = Nat.succ n) (e2 : lcut xs 1 n = xs2) (e3 : Nat.ble (Nat.succ n) (Nat.succ n) = true)
    (h1 : A.eq o 4 = false) (h2 : A.eq o 8 = true) : evl (envV A) (.call 109 [.sl 3 xs .imm] []) = some (.ret (.tup [.agg (wC .imm 3 ⟨#[]⟩ ⟨#[]⟩ ⟨#[]⟩ [] []), .sl 3 xs2 .imm]) []) := by
  unfold wC
  rw [evl_fn (envV A) 109 _ _ (fn := Try.f109) (c := bd109) (lv := lvF109) rfl rfl rfl rfl rfl rfl]
  have hnle := hA.nleE; have hneq := hA.neqE
  have klt := hA.lt; have kle := hA.le; have keq := hA.eq; have knle := hA.nle; have kneq := hA.neq
  generalize lpOf (envV A) 109 bd109 = LP
  generalize evl (envV A) = E at e0 e1 e2 e3 h1 h2 ⊢
  obtain ⟨aadd, asub, amul, arem, aquo, awr, ashr, aeq, alt, ale, aseq, aslt, acat, acut, asiz, aat, anle, aneq, afit⟩ := A
  simp only at hnle hneq
  subst hnle hneq
  simp only at klt kle keq knle kneq
  try simp only at h1 h2
  conv at e0 => lhs; cbv
  conv at e1 => lhs; cbv
  conv at e2 => lhs; cbv
  conv at e3 => lhs; cbv
  cbv
  rewrite [e0]
  cbv
  rewrite [e1]
  cbv
  rewrite [e3]
  cbv
  rewrite [e2]
  cbv
  rewrite [h1]
  cbv
  rewrite [h2]
  cbv
theorem eq_one_all (e0 : lget xs 0 = some (.agg [.s (.int .i64 o), .s (.string a), .s (.string b)])) (e1 : xs.length = Nat.succ n) (e2 : lcut xs 1 n = xs2) (e3 : Nat.ble (Nat.succ n) (Nat.succ n) = true)
    (h1 : A.eq o 4 = false) (h2 : A.eq o 8 = false) (h3 : A.eq o 7 = true) : evl (envV A) (.call 109 [.sl 3 xs .imm] []) = some (.ret (.tup [.agg (wC .imm 4 ⟨#[]⟩ ⟨#[]⟩ ⟨#[]⟩ [] []), .sl 3 xs2 .imm]) []) := by
  unfold wC
  rw [evl_fn (envV A) 109 _ _ (fn := Try.f109) (c := bd109) (lv := lvF109) rfl rfl rfl rfl rfl rfl]
  have hnle := hA.nleE; have hneq := hA.neqE
  have klt := hA.lt; have kle := hA.le; have keq := hA.eq; have knle := hA.nle; have kneq := hA.neq
  generalize lpOf (envV A) 109 bd109 = LP
  generalize evl (envV A) = E at e0 e1 e2 e3 h1 h2 h3 ⊢
  obtain ⟨aadd, asub, amul, arem, aquo, awr, ashr, aeq, alt, ale, aseq, aslt, acat, acut, asiz, aat, anle, aneq, afit⟩ := A
  simp only at hnle hneq
  subst hnle hneq
  simp only at klt kle keq knle kneq
  try simp only at h1 h2 h3
  conv at e0 => lhs; cbv
  conv at e1 => lhs; cbv
  conv at e2 => lhs; cbv
  conv at e3 => lhs; cbv
  cbv
  rewrite [e0]
  cbv
  rewrite [e1]
  cbv
  rewrite [e3]
  cbv
  rewrite [e2]
  cbv
  rewrite [h1]
  cbv
  rewrite [h2]
  cbv
  rewrite [h3]
  cbv
theorem lp_one_on {r : Option Res} (e0 : lget xs 0 = some (.agg [.s (.int .i64 o2), .s (.string a2), .s (.string b2)])) (e1 : xs.length = Nat.succ n) (e2 : lcut xs 1 n = xs2) (e3 : Nat.ble (Nat.succ n) (Nat.succ n) = true)
    (e4 : ats.length = m) (e5 : ats ++ [.agg [.s (.string a2), .s (.string b2), .s (.bool (A.eq o2 6))]] = ats2) (e6 : Nat.beq m m = true) (h0 : A.lt 0 (.ofNat (Nat.succ n)) = true) (h1 : evl (envV A) (.call 97 [.s (.int .i64 o2)] []) = some (.ret (.s (.bool true)) [])) (h2 : A.fit (Nat.succ m) 40 = true)
    (hr : lpOf (envV A) 109 bd109 10 (stOn xs2 ats2 o a b) = r) : lpOf (envV A) 109 bd109 10 (stOn xs ats o a b) = r := by
  unfold stOn wC at hr ⊢
  rw [lp_step (envV A) 109 (c0 := bd109) (lv := lvF109) rfl rfl]
  have hnle := hA.nleE; have hneq := hA.neqE
  have klt := hA.lt; have kle := hA.le; have keq := hA.eq; have knle := hA.nle; have kneq := hA.neq
  rw [lp_split (lpOf (envV A) 109 bd109) 10]
  generalize lpOf (envV A) 109 bd109 10 = L10 at e0 e1 e2 e3 e4 e5 e6 h0 h1 h2 hr ⊢
  generalize lpOf (envV A) 109 bd109 = LP
  generalize evl (envV A) = E at e0 e1 e2 e3 e4 e5 e6 h0 h1 h2 hr ⊢
  obtain ⟨aadd, asub, amul, arem, aquo, awr, ashr, aeq, alt, ale, aseq, aslt, acat, acut, asiz, aat, anle, aneq, afit⟩ := A
  simp only at hnle hneq
  subst hnle hneq
  simp only at klt kle keq knle kneq
  try simp only at h0 h1 h2 hr
  conv at e0 => lhs; cbv
  conv at e1 => lhs; cbv
  conv at e2 => lhs; cbv
  conv at e3 => lhs; cbv
  conv at e4 => lhs; cbv
  conv at e5 => lhs; cbv
  conv at e6 => lhs; cbv
  cbv
  rewrite [e1]
  cbv
  rewrite [h0]
  cbv
  rewrite [e0]
  cbv
  rewrite [h1]
  cbv
  rewrite [e0]
  cbv
  rewrite [e0]
  cbv
  rewrite [e0]
  cbv
  rewrite [e4]
  cbv
  rewrite [e6]
  cbv
  rewrite [e5]
  cbv
  rewrite [h2]
  cbv
  rewrite [e1]
  cbv
  rewrite [e3]
  cbv
  rewrite [e2]
  cbv
  rewrite [hr]
  cbv
theorem lp_one_end (e0 : lget xs 0 = some (.agg [.s (.int .i64 o2), .s (.string a2), .s (.string b2)])) (e1 : xs.length = Nat.succ n) (e3 : Nat.ble (Nat.succ n) (Nat.succ n) = true)
    (h0 : A.lt 0 (.ofNat (Nat.succ n)) = true) (h1 : evl (envV A) (.call 97 [.s (.int .i64 o2)] []) = some (.ret (.s (.bool false)) [])) : lpOf (envV A) 109 bd109 10 (stOn xs ats o a b) = some (.code (.exit 1) (stOne xs ats o a b)) := by
  unfold stOn stOne wC
  rw [lp_step (envV A) 109 (c0 := bd109) (lv := lvF109) rfl rfl]
  have hnle := hA.nleE; have hneq := hA.neqE
  have klt := hA.lt; have kle := hA.le; have keq := hA.eq; have knle := hA.nle; have kneq := hA.neq
  generalize lpOf (envV A) 109 bd109 = LP
  generalize evl (envV A) = E at e0 e1 e3 h0 h1 ⊢
  obtain ⟨aadd, asub, amul, arem, aquo, awr, ashr, aeq, alt, ale, aseq, aslt, acat, acut, asiz, aat, anle, aneq, afit⟩ := A
  simp only at hnle hneq
  subst hnle hneq
  simp only at klt kle keq knle kneq
  try simp only at h0 h1
  conv at e0 => lhs; cbv
  conv at e1 => lhs; cbv
  conv at e3 => lhs; cbv
  cbv
  rewrite [e1]
  cbv
  rewrite [h0]
  cbv
  rewrite [e0]
  cbv
  rewrite [h1]
  cbv
theorem lp_one_nil (h0 : A.lt 0 0 = false) : lpOf (envV A) 109 bd109 10 (stOn [] ats o a b) = some (.code (.exit 1) (stOne [] ats o a b)) := by
  unfold stOn stOne wC
  rw [lp_step (envV A) 109 (c0 := bd109) (lv := lvF109) rfl rfl]
  have hnle := hA.nleE; have hneq := hA.neqE
  have klt := hA.lt; have kle := hA.le; have keq := hA.eq; have knle := hA.nle; have kneq := hA.neq
  generalize lpOf (envV A) 109 bd109 = LP
  generalize evl (envV A) = E at h0 ⊢
  obtain ⟨aadd, asub, amul, arem, aquo, awr, ashr, aeq, alt, ale, aseq, aslt, acat, acut, asiz, aat, anle, aneq, afit⟩ := A
  simp only at hnle hneq
  subst hnle hneq
  simp only at klt kle keq knle kneq
  try simp only at h0
  cbv
  rewrite [klt (0) (Int.ofNat 0)]
  cbv
theorem eq_one_void (e0 : lget xs 0 = some (.agg [.s (.int .i64 o), .s (.string a), .s (.string b)])) (e1 : xs.length = Nat.succ n) (e2 : lcut xs 1 n = xs2) (e3 : Nat.ble (Nat.succ n) (Nat.succ n) = true) (e4 : ats.length = m) (e5 : Nat.ble m m = true) (e6 : ats.take m = ats)
    (h1 : A.eq o 4 = false) (h2 : A.eq o 8 = false) (h3 : A.eq o 7 = false) (h4 : A.eq o 1 = false) (h5 : lpOf (envV A) 109 bd109 10 (stOn xs2 [] o a b) = some (.code (.exit 1) (stOne xs3 ats o a b))) :
    evl (envV A) (.call 109 [.sl 3 xs .imm] []) = some (.ret (.tup [.agg (wC .imm 1 a b ⟨#[]⟩ ats []), .sl 3 xs3 .imm]) []) := by
  unfold stOn stOne at h5
  unfold wC at h5 ⊢
  rw [evl_fn (envV A) 109 _ _ (fn := Try.f109) (c := bd109) (lv := lvF109) rfl rfl rfl rfl rfl rfl]
  have hnle := hA.nleE; have hneq := hA.neqE
  have klt := hA.lt; have kle := hA.le; have keq := hA.eq; have knle := hA.nle; have kneq := hA.neq
  rw [lp_split (lpOf (envV A) 109 bd109) 10]
  generalize lpOf (envV A) 109 bd109 10 = L10 at e0 e1 e2 e3 e4 e5 e6 h1 h2 h3 h4 h5 ⊢
  generalize lpOf (envV A) 109 bd109 = LP
  generalize evl (envV A) = E at e0 e1 e2 e3 e4 e5 e6 h1 h2 h3 h4 h5 ⊢
  obtain ⟨aadd, asub, amul, arem, aquo, awr, ashr, aeq, alt, ale, aseq, aslt, acat, acut, asiz, aat, anle, aneq, afit⟩ := A
  simp only at hnle hneq
  subst hnle hneq
  simp only at klt kle keq knle kneq
  try simp only at h1 h2 h3 h4 h5
  conv at e0 => lhs; cbv
  conv at e1 => lhs; cbv
  conv at e2 => lhs; cbv
  conv at e3 => lhs; cbv
  conv at e4 => lhs; cbv
  conv at e5 => lhs; cbv
  conv at e6 => lhs; cbv
  cbv
  rewrite [e0]
  cbv
  rewrite [e1]
  cbv
  rewrite [e3]
  cbv
  rewrite [e2]
  cbv
  rewrite [h1]
  cbv
  rewrite [h2]
  cbv
  rewrite [h3]
  cbv
  rewrite [h5]
  cbv
  rewrite [h4]
  cbv
theorem eq_one_open (zs : List AV) (kz : Nat) (e0 : lget xs 0 = some (.agg [.s (.int .i64 o), .s (.string a), .s (.string b)])) (e1 : xs.length = Nat.succ n) (e2 : lcut xs 1 n = xs2) (e3 : Nat.ble (Nat.succ n) (Nat.succ n) = true) (e4 : ats.length = m) (e5 : Nat.ble m m = true) (e6 : ats.take m = ats) (e7 : ks.length = kz) (e8 : Nat.ble kz kz = true) (e9 : ks.take kz = ks)
    (h1 : A.eq o 4 = false) (h2 : A.eq o 8 = false) (h3 : A.eq o 7 = false) (h4 : A.eq o 1 = true) (h5 : lpOf (envV A) 109 bd109 10 (stOn xs2 [] o a b) = some (.code (.exit 1) (stOne xs3 ats o a b)))
    (h6 : evl (envV A) (.call 79 [.sl 3 xs3 .imm] []) = some (.ret (.tup [.sl 6 ks .full, .sl 3 zs .imm]) [])) :
    evl (envV A) (.call 109 [.sl 3 xs .imm] []) = some (.ret (.tup [.agg (wC .imm 1 a b ⟨#[]⟩ ats ks), .sl 3 zs .imm]) []) := by
  unfold stOn stOne at h5
  unfold wC at h5 ⊢
  rw [evl_fn (envV A) 109 _ _ (fn := Try.f109) (c := bd109) (lv := lvF109) rfl rfl rfl rfl rfl rfl]
  have hnle := hA.nleE; have hneq := hA.neqE
  have klt := hA.lt; have kle := hA.le; have keq := hA.eq; have knle := hA.nle; have kneq := hA.neq
  rw [lp_split (lpOf (envV A) 109 bd109) 10]
  generalize lpOf (envV A) 109 bd109 10 = L10 at e0 e1 e2 e3 e4 e5 e6 e7 e8 e9 h1 h2 h3 h4 h5 h6 ⊢
  generalize lpOf (envV A) 109 bd109 = LP
  generalize evl (envV A) = E at e0 e1 e2 e3 e4 e5 e6 e7 e8 e9 h1 h2 h3 h4 h5 h6 ⊢
  obtain ⟨aadd, asub, amul, arem, aquo, awr, ashr, aeq, alt, ale, aseq, aslt, acat, acut, asiz, aat, anle, aneq, afit⟩ := A
  simp only at hnle hneq
  subst hnle hneq
  simp only at klt kle keq knle kneq
  try simp only at h1 h2 h3 h4 h5 h6
  conv at e0 => lhs; cbv
  conv at e1 => lhs; cbv
  conv at e2 => lhs; cbv
  conv at e3 => lhs; cbv
  conv at e4 => lhs; cbv
  conv at e5 => lhs; cbv
  conv at e6 => lhs; cbv
  conv at e7 => lhs; cbv
  conv at e8 => lhs; cbv
  conv at e9 => lhs; cbv
  cbv
  rewrite [e0]
  cbv
  rewrite [e1]
  cbv
  rewrite [e3]
  cbv
  rewrite [e2]
  cbv
  rewrite [h1]
  cbv
  rewrite [h2]
  cbv
  rewrite [h3]
  cbv
  rewrite [h5]
  cbv
  rewrite [h4]
  cbv
  rewrite [h6]
  cbv
theorem lp_some_on (kd : Int) {r : Option Res} (e0 : lget xs 0 = some (.agg [.s (.int .i64 o), .s (.string a), .s (.string b)])) (e1 : xs.length = Nat.succ n) (e2 : out.length = m) (e3 : Nat.beq m m = true) (e4 : Nat.ble (Nat.succ n) (Nat.succ n) = true) (e5 : out ++ [.agg [.s (.int .i64 kd), .s (.string tag), .s (.string key), .s (.string text), .sl 3 ats .imm, .sl 6 ks .imm]] = out2)
    (h1 : A.eq o 2 = false) (h0 : A.lt 0 (.ofNat (Nat.succ n)) = true) (h4 : A.fit (Nat.succ m) 104 = true) (h5 : evl (envV A) (.call 109 [.sl 3 xs .imm] []) = some (.ret (.tup [.agg (wC .imm kd tag key text ats ks), .sl 3 xs2 .imm]) []))
    (hr : lpOf (envV A) 79 bd79 2 (stSm xs2 out2) = r) : lpOf (envV A) 79 bd79 2 (stSm xs out) = r := by
  unfold stSm at hr ⊢
  unfold wC at h5
  rw [lp_step (envV A) 79 (c0 := bd79) (lv := lvF79) rfl rfl]
  have hnle := hA.nleE; have hneq := hA.neqE
  have klt := hA.lt; have kle := hA.le; have keq := hA.eq; have knle := hA.nle; have kneq := hA.neq
  rw [lp_split (lpOf (envV A) 79 bd79) 2]
  generalize lpOf (envV A) 79 bd79 2 = L2 at e0 e1 e2 e3 e4 e5 h1 h0 h4 h5 hr ⊢
  generalize lpOf (envV A) 79 bd79 = LP
  generalize evl (envV A) = E at e0 e1 e2 e3 e4 e5 h1 h0 h4 h5 hr ⊢
  obtain ⟨aadd, asub, amul, arem, aquo, awr, ashr, aeq, alt, ale, aseq, aslt, acat, acut, asiz, aat, anle, aneq, afit⟩ := A
  simp only at hnle hneq
  subst hnle hneq
  simp only at klt kle keq knle kneq
  try simp only at h1 h0 h4 h5 hr
  conv at e0 => lhs; cbv
  conv at e1 => lhs; cbv
  conv at e2 => lhs; cbv
  conv at e3 => lhs; cbv
  conv at e4 => lhs; cbv
  conv at e5 => lhs; cbv
  cbv
  rewrite [e1]
  cbv
  rewrite [h0]
  cbv
  rewrite [e0]
  cbv
  rewrite [h1]
  cbv
  rewrite [h5]
  cbv
  rewrite [e2]
  cbv
  rewrite [e3]
  cbv
  rewrite [e5]
  cbv
  rewrite [h4]
  cbv
  rewrite [hr]
  cbv
theorem lp_some_end (e0 : lget xs 0 = some (.agg [.s (.int .i64 o), .s (.string a), .s (.string b)])) (e1 : xs.length = Nat.succ n) (e4 : Nat.ble (Nat.succ n) (Nat.succ n) = true)
    (h1 : A.eq o 2 = true) (h0 : A.lt 0 (.ofNat (Nat.succ n)) = true) : lpOf (envV A) 79 bd79 2 (stSm xs out) = some (.code (.exit 0) (stSme xs out)) := by
  unfold stSm stSme
  rw [lp_step (envV A) 79 (c0 := bd79) (lv := lvF79) rfl rfl]
  have hnle := hA.nleE; have hneq := hA.neqE
  have klt := hA.lt; have kle := hA.le; have keq := hA.eq; have knle := hA.nle; have kneq := hA.neq
  generalize lpOf (envV A) 79 bd79 = LP
  generalize evl (envV A) = E at e0 e1 e4 h1 h0 ⊢
  obtain ⟨aadd, asub, amul, arem, aquo, awr, ashr, aeq, alt, ale, aseq, aslt, acat, acut, asiz, aat, anle, aneq, afit⟩ := A
  simp only at hnle hneq
  subst hnle hneq
  simp only at klt kle keq knle kneq
  try simp only at h1 h0
  conv at e0 => lhs; cbv
  conv at e1 => lhs; cbv
  conv at e4 => lhs; cbv
  cbv
  rewrite [e1]
  cbv
  rewrite [h0]
  cbv
  rewrite [e0]
  cbv
  rewrite [h1]
  cbv
theorem lp_some_nil (h0 : A.lt 0 0 = false) : lpOf (envV A) 79 bd79 2 (stSm [] out) = some (.code (.exit 0) (stSme [] out)) := by
  unfold stSm stSme
  rw [lp_step (envV A) 79 (c0 := bd79) (lv := lvF79) rfl rfl]
  have hnle := hA.nleE; have hneq := hA.neqE
  have klt := hA.lt; have kle := hA.le; have keq := hA.eq; have knle := hA.nle; have kneq := hA.neq
  generalize lpOf (envV A) 79 bd79 = LP
  generalize evl (envV A) = E at h0 ⊢
  obtain ⟨aadd, asub, amul, arem, aquo, awr, ashr, aeq, alt, ale, aseq, aslt, acat, acut, asiz, aat, anle, aneq, afit⟩ := A
  simp only at hnle hneq
  subst hnle hneq
  simp only at klt kle keq knle kneq
  try simp only at h0
  cbv
  rewrite [klt (0) (Int.ofNat 0)]
  cbv
theorem eq_some_nil (e1 : out.length = m) (e4 : Nat.ble m m = true) (e5 : out.take m = out) (h1 : A.lt 1 0 = false) (h5 : lpOf (envV A) 79 bd79 2 (stSm xs []) = some (.code (.exit 0) (stSme [] out))) : evl (envV A) (.call 79 [.sl 3 xs .imm] []) = some (.ret (.tup [.sl 6 out .full, .sl 3 [] .imm]) []) := by
  unfold stSm stSme at h5
  rw [evl_fn (envV A) 79 _ _ (fn := Try.f79) (c := bd79) (lv := lvF79) rfl rfl rfl rfl rfl rfl]
  have hnle := hA.nleE; have hneq := hA.neqE
  have klt := hA.lt; have kle := hA.le; have keq := hA.eq; have knle := hA.nle; have kneq := hA.neq
  rw [lp_split (lpOf (envV A) 79 bd79) 2]
  generalize lpOf (envV A) 79 bd79 2 = L2 at e1 e4 e5 h1 h5 ⊢
  generalize lpOf (envV A) 79 bd79 = LP
  generalize evl (envV A) = E at e1 e4 e5 h1 h5 ⊢
  obtain ⟨aadd, asub, amul, arem, aquo, awr, ashr, aeq, alt, ale, aseq, aslt, acat, acut, asiz, aat, anle, aneq, afit⟩ := A
  simp only at hnle hneq
  subst hnle hneq
  simp only at klt kle keq knle kneq
  try simp only at h1 h5
  conv at e1 => lhs; cbv
  conv at e4 => lhs; cbv
  conv at e5 => lhs; cbv
  cbv
  rewrite [h5]
  cbv
  rewrite [e1]
  cbv
  rewrite [klt (1) (Int.ofNat 0)]
  cbv
  rewrite [e1]
  cbv
  rewrite [e4]
  cbv
  rewrite [e5]
  cbv
theorem eq_some_one (x : AV) (e1 : out.length = m) (e4 : Nat.ble m m = true) (e5 : out.take m = out) (h1 : A.lt 1 1 = false) (h5 : lpOf (envV A) 79 bd79 2 (stSm xs []) = some (.code (.exit 0) (stSme [x] out))) : evl (envV A) (.call 79 [.sl 3 xs .imm] []) = some (.ret (.tup [.sl 6 out .full, .sl 3 [] .imm]) []) := by
  unfold stSm stSme at h5
  rw [evl_fn (envV A) 79 _ _ (fn := Try.f79) (c := bd79) (lv := lvF79) rfl rfl rfl rfl rfl rfl]
  have hnle := hA.nleE; have hneq := hA.neqE
  have klt := hA.lt; have kle := hA.le; have keq := hA.eq; have knle := hA.nle; have kneq := hA.neq
  rw [lp_split (lpOf (envV A) 79 bd79) 2]
  generalize lpOf (envV A) 79 bd79 2 = L2 at e1 e4 e5 h1 h5 ⊢
  generalize lpOf (envV A) 79 bd79 = LP
  generalize evl (envV A) = E at e1 e4 e5 h1 h5 ⊢
  obtain ⟨aadd, asub, amul, arem, aquo, awr, ashr, aeq, alt, ale, aseq, aslt, acat, acut, asiz, aat, anle, aneq, afit⟩ := A
  simp only at hnle hneq
  subst hnle hneq
  simp only at klt kle keq knle kneq
  try simp only at h1 h5
  conv at e1 => lhs; cbv
  conv at e4 => lhs; cbv
  conv at e5 => lhs; cbv
  cbv
  rewrite [h5]
  cbv
  rewrite [e1]
  cbv
  rewrite [klt (1) (Int.ofNat 1)]
  cbv
  rewrite [e1]
  cbv
  rewrite [e4]
  cbv
  rewrite [e5]
  cbv
theorem eq_some_two (e0 : xs.length = Nat.succ n) (e1 : out.length = m) (e2 : lcut xs 1 n = xs2) (e3 : Nat.ble (Nat.succ n) (Nat.succ n) = true) (e4 : Nat.ble m m = true) (e5 : out.take m = out) (h1 : A.lt 1 (.ofNat (Nat.succ n)) = true)
   (h5 : lpOf (envV A) 79 bd79 2 (stSm xs3 []) = some (.code (.exit 0) (stSme xs out))) : evl (envV A) (.call 79 [.sl 3 xs3 .imm] []) = some (.ret (.tup [.sl 6 out .full, .sl 3 xs2 .imm]) []) := by
  unfold stSm stSme at h5
  rw [evl_fn (envV A) 79 _ _ (fn := Try.f79) (c := bd79) (lv := lvF79) rfl rfl rfl rfl rfl rfl]
  have hnle := hA.nleE; have hneq := hA.neqE
  have klt := hA.lt; have kle := hA.le; have keq := hA.eq; have knle := hA.nle; have kneq := hA.neq
  rw [lp_split (lpOf (envV A) 79 bd79) 2]
  generalize lpOf (envV A) 79 bd79 2 = L2 at e0 e1 e2 e3 e4 e5 h1 h5 ⊢
  generalize lpOf (envV A) 79 bd79 = LP
  generalize evl (envV A) = E at e0 e1 e2 e3 e4 e5 h1 h5 ⊢
  obtain ⟨aadd, asub, amul, arem, aquo, awr, ashr, aeq, alt, ale, aseq, aslt, acat, acut, asiz, aat, anle, aneq, afit⟩ := A
  simp only at hnle hneq
  subst hnle hneq
  simp only at klt kle keq knle kneq
  try simp only at h1 h5
  conv at e0 => lhs; cbv
  conv at e1 => lhs; cbv
  conv at e2 => lhs; cbv
  conv at e3 => lhs; cbv
  conv at e4 => lhs; cbv
  conv at e5 => lhs; cbv
  cbv
  rewrite [h5]
  cbv
  rewrite [e0]
  cbv
  rewrite [e1]
  cbv
  rewrite [h1]
  cbv
  rewrite [e3]
  cbv
  rewrite [e1]
  cbv
  rewrite [e2]
  cbv
  rewrite [e4]
  cbv
  rewrite [e5]
  cbv
end
end Go.Va
namespace Go.Va
open Go.Proofs
set_option maxRecDepth 100000
set_option maxHeartbeats 4000000
section
variable (A : Ar) (hA : ArOk A) (p : Perm) (hp : p = .ro ∨ p = .imm) (xs ws ys out out2 ats ks : List AV) (n m i c d e : Nat) (kd : Int) (tag key text : ByteArray)
include hA
theorem eq_Of_ok (zs : List AV) (e1 : ws.length = m) (e4 : Nat.ble m m = true) (e5 : ws.take m = ws) (h1 : evl (envV A) (.call 23 [.sl 3 xs .imm] []) = some (.ret (.s .nilIface) [])) (h2 : evl (envV A) (.call 79 [.sl 3 xs .imm] []) = some (.ret (.tup [.sl 6 ws .full, .sl 3 zs .imm]) [])) :
    evl (envV A) (.call 34 [.sl 3 xs .imm] []) = some (.ret (.tup [.sl 6 ws .full, .s .nilIface]) []) := by
  rw [evl_fn (envV A) 34 _ _ (fn := Try.f34) (c := bd34) (lv := lvF34) rfl rfl rfl rfl rfl rfl]
  have hnle := hA.nleE; have hneq := hA.neqE
  have klt := hA.lt; have kle := hA.le; have keq := hA.eq; have knle := hA.nle; have kneq := hA.neq
  generalize lpOf (envV A) 34 bd34 = LP
  generalize evl (envV A) = E at e1 e4 e5 h1 h2 ⊢
  obtain ⟨aadd, asub, amul, arem, aquo, awr, ashr, aeq, alt, ale, aseq, aslt, acat, acut, asiz, aat, anle, aneq, afit⟩ := A
  simp only at hnle hneq
  subst hnle hneq
  simp only at klt kle keq knle kneq
  try simp only at h1 h2
  conv at e1 => lhs; cbv
  conv at e4 => lhs; cbv
  conv at e5 => lhs; cbv
  cbv
  rewrite [h1]
  cbv
  rewrite [h2]
  cbv
  rewrite [e1]
  cbv
  rewrite [e4]
  cbv
  rewrite [e5]
  cbv
theorem eq_Of_no (z : Int) (h1 : evl (envV A) (.call 23 [.sl 3 xs .imm] []) = some (.ret (.s (.iface 39 (.int .i64 z))) [])) :
    evl (envV A) (.call 34 [.sl 3 xs .imm] []) = some (.ret (.tup [.sl 6 [] .full, .s (.iface 39 (.int .i64 z))]) []) := by
  rw [evl_fn (envV A) 34 _ _ (fn := Try.f34) (c := bd34) (lv := lvF34) rfl rfl rfl rfl rfl rfl]
  have hnle := hA.nleE; have hneq := hA.neqE
  have klt := hA.lt; have kle := hA.le; have keq := hA.eq; have knle := hA.nle; have kneq := hA.neq
  generalize lpOf (envV A) 34 bd34 = LP
  generalize evl (envV A) = E at h1 ⊢
  obtain ⟨aadd, asub, amul, arem, aquo, awr, ashr, aeq, alt, ale, aseq, aslt, acat, acut, asiz, aat, anle, aneq, afit⟩ := A
  simp only at hnle hneq
  subst hnle hneq
  simp only at klt kle keq knle kneq
  try simp only at h1
  cbv
  rewrite [h1]
  cbv
end
end Go.Va
namespace Go.Va
open Go.Proofs
set_option maxRecDepth 100000
set_option maxHeartbeats 4000000
def stAs (p : Perm) (ws out : List AV) (i : Nat) : St := { n := 47, k := 0, fr := [(0, .sl 6 ws p), (3, .sl 6 out .full), (4, .s (.int .i64 (.ofNat i)))], O := [] }
def stAse (p : Perm) (ws out : List AV) (i : Nat) : St := { n := 47, k := 0, fr := [(0, .sl 6 ws p), (3, .sl 6 out .full), (4, .s (.int .i64 (.ofNat i))), (8, .s (.bool false))], O := [] }
section
variable (A : Ar) (hA : ArOk A) (p : Perm) (hp : p = .ro ∨ p = .imm) (ws out out2 ats ks ks2 : List AV) (n m i c d e : Nat) (kd : Int) (tag key text : ByteArray)
include hA hp
theorem lp_as {r : Option Res} (kz : Nat) (e0 : ws.length = n) (e1 : lget ws i = some (.agg (wC .imm kd tag key text ats ks))) (e2 : Nat.ble (Nat.succ i) n = true) (e3 : out.length = m) (e4 : out ++ [.agg [.s (.int .i64 kd), .s (.string tag), .s (.string key), .s (.string text), .sl 3 ats .imm, .sl 6 ks2 .imm]] = out2) (e5 : Nat.beq m m = true) (e7 : ks2.length = kz) (e8 : Nat.ble kz kz = true) (e9 : ks2.take kz = ks2)
    (h1 : A.lt (.ofNat i) (.ofNat n) = true) (h2 : A.add .i64 (.ofNat i) 1 = .ofNat (Nat.succ i)) (h4 : A.fit (Nat.succ m) 104 = true)
    (h5 : evl (envV A) (.call 36 [.sl 6 ks .imm] []) = some (.ret (.sl 6 ks2 .full) []))
    (hr : lpOf (envV A) 36 bd36 3 (stAs p ws out2 (Nat.succ i)) = r) : lpOf (envV A) 36 bd36 3 (stAs p ws out i) = r := by
  unfold wC at e1
  unfold stAs at hr ⊢
  rcases hp with rfl | rfl
  ·
    rw [lp_step (envV A) 36 (c0 := bd36) (lv := lvF36) rfl rfl]
    have hnle := hA.nleE; have hneq := hA.neqE
    have klt := hA.lt; have kle := hA.le; have keq := hA.eq; have knle := hA.nle; have kneq := hA.neq
    rw [lp_split (lpOf (envV A) 36 bd36) 3]
    generalize lpOf (envV A) 36 bd36 3 = L3 at e0 e1 e2 e3 e4 e5 e7 e8 e9 h1 h2 h4 h5 hr ⊢
    generalize lpOf (envV A) 36 bd36 = LP
    generalize evl (envV A) = E at e0 e1 e2 e3 e4 e5 e7 e8 e9 h1 h2 h4 h5 hr ⊢
    obtain ⟨aadd, asub, amul, arem, aquo, awr, ashr, aeq, alt, ale, aseq, aslt, acat, acut, asiz, aat, anle, aneq, afit⟩ := A
    simp only at hnle hneq
    subst hnle hneq
    simp only at klt kle keq knle kneq
    try simp only at h1 h2 h4 h5 hr
    conv at e0 => lhs; cbv
    conv at e1 => lhs; cbv
    conv at e2 => lhs; cbv
    conv at e3 => lhs; cbv
    conv at e4 => lhs; cbv
    conv at e5 => lhs; cbv
    conv at e7 => lhs; cbv
    conv at e8 => lhs; cbv
    conv at e9 => lhs; cbv
    cbv
    rewrite [e0]
    cbv
    rewrite [h1]
    cbv
    rewrite [e1]
    cbv
    rewrite [e1]
    cbv
    rewrite [e1]
    cbv
    rewrite [e1]
    cbv
    rewrite [e1]
    cbv
    rewrite [e1]
    cbv
    rewrite [e3]
    cbv
    rewrite [h5]
    cbv
    rewrite [e3]
    cbv
    rewrite [e4]
    cbv
    rewrite [e5]
    cbv
    rewrite [h4]
    cbv
    rewrite [h2]
    cbv
    rewrite [hr]
    cbv
  ·
    rw [lp_step (envV A) 36 (c0 := bd36) (lv := lvF36) rfl rfl]
    have hnle := hA.nleE; have hneq := hA.neqE
    have klt := hA.lt; have kle := hA.le; have keq := hA.eq; have knle := hA.nle; have kneq := hA.neq
    rw [lp_split (lpOf (envV A) 36 bd36) 3]
    generalize lpOf (envV A) 36 bd36 3 = L3 at e0 e1 e2 e3 e4 e5 e7 e8 e9 h1 h2 h4 h5 hr ⊢
    generalize lpOf (envV A) 36 bd36 = LP
    generalize evl (envV A) = E at e0 e1 e2 e3 e4 e5 e7 e8 e9 h1 h2 h4 h5 hr ⊢
    obtain ⟨aadd, asub, amul, arem, aquo, awr, ashr, aeq, alt, ale, aseq, aslt, acat, acut, asiz, aat, anle, aneq, afit⟩ := A
    simp only at hnle hneq
    subst hnle hneq
    simp only at klt kle keq knle kneq
    try simp only at h1 h2 h4 h5 hr
    conv at e0 => lhs; cbv
    conv at e1 => lhs; cbv
    conv at e2 => lhs; cbv
    conv at e3 => lhs; cbv
    conv at e4 => lhs; cbv
    conv at e5 => lhs; cbv
    conv at e7 => lhs; cbv
    conv at e8 => lhs; cbv
    conv at e9 => lhs; cbv
    cbv
    rewrite [e0]
    cbv
    rewrite [h1]
    cbv
    rewrite [e1]
    cbv
    rewrite [e1]
    cbv
    rewrite [e1]
    cbv
    rewrite [e1]
    cbv
    rewrite [e1]
    cbv
    rewrite [e1]
    cbv
    rewrite [e3]
    cbv
    rewrite [h5]
    cbv
    rewrite [e3]
    cbv
    rewrite [e4]
    cbv
    rewrite [e5]
    cbv
    rewrite [h4]
    cbv
    rewrite [h2]
    cbv
    rewrite [hr]
    cbv
theorem lp_as_end (e0 : ws.length = n) (h1 : A.lt (.ofNat i) (.ofNat n) = false) : lpOf (envV A) 36 bd36 3 (stAs p ws out i) = some (.code (.exit 0) (stAse p ws out i)) := by
  unfold stAs stAse
  rcases hp with rfl | rfl
  ·
    rw [lp_step (envV A) 36 (c0 := bd36) (lv := lvF36) rfl rfl]
    have hnle := hA.nleE; have hneq := hA.neqE
    have klt := hA.lt; have kle := hA.le; have keq := hA.eq; have knle := hA.nle; have kneq := hA.neq
    generalize lpOf (envV A) 36 bd36 = LP
    generalize evl (envV A) = E at e0 h1 ⊢
    obtain ⟨aadd, asub, amul, arem, aquo, awr, ashr, aeq, alt, ale, aseq, aslt, acat, acut, asiz, aat, anle, aneq, afit⟩ := A
    simp only at hnle hneq
    subst hnle hneq
    simp only at klt kle keq knle kneq
    try simp only at h1
    conv at e0 => lhs; cbv
    cbv
    rewrite [e0]
    cbv
    rewrite [h1]
    cbv
  ·
    rw [lp_step (envV A) 36 (c0 := bd36) (lv := lvF36) rfl rfl]
    have hnle := hA.nleE; have hneq := hA.neqE
    have klt := hA.lt; have kle := hA.le; have keq := hA.eq; have knle := hA.nle; have kneq := hA.neq
    generalize lpOf (envV A) 36 bd36 = LP
    generalize evl (envV A) = E at e0 h1 ⊢
    obtain ⟨aadd, asub, amul, arem, aquo, awr, ashr, aeq, alt, ale, aseq, aslt, acat, acut, asiz, aat, anle, aneq, afit⟩ := A
    simp only at hnle hneq
    subst hnle hneq
    simp only at klt kle keq knle kneq
    try simp only at h1
    conv at e0 => lhs; cbv
    cbv
    rewrite [e0]
    cbv
    rewrite [h1]
    cbv
theorem eq_as (e3 : out.length = m) (e4 : Nat.ble m m = true) (e5 : out.take m = out) (h1 : lpOf (envV A) 36 bd36 3 (stAs p ws [] 0) = some (.code (.exit 0) (stAse p ws out i))) :
    evl (envV A) (.call 36 [.sl 6 ws p] []) = some (.ret (.sl 6 out .full) []) := by
  unfold stAs stAse at h1
  simp only [show Int.ofNat 0 = 0 from rfl] at h1
  rcases hp with rfl | rfl
  ·
    rw [evl_fn (envV A) 36 _ _ (fn := Try.f36) (c := bd36) (lv := lvF36) rfl rfl rfl rfl rfl rfl]
    have hnle := hA.nleE; have hneq := hA.neqE
    have klt := hA.lt; have kle := hA.le; have keq := hA.eq; have knle := hA.nle; have kneq := hA.neq
    rw [lp_split (lpOf (envV A) 36 bd36) 3]
    generalize lpOf (envV A) 36 bd36 3 = L3 at e3 e4 e5 h1 ⊢
    generalize lpOf (envV A) 36 bd36 = LP
    generalize evl (envV A) = E at e3 e4 e5 h1 ⊢
    obtain ⟨aadd, asub, amul, arem, aquo, awr, ashr, aeq, alt, ale, aseq, aslt, acat, acut, asiz, aat, anle, aneq, afit⟩ := A
    simp only at hnle hneq
    subst hnle hneq
    simp only at klt kle keq knle kneq
    try simp only at h1
    conv at e3 => lhs; cbv
    conv at e4 => lhs; cbv
    conv at e5 => lhs; cbv
    cbv
    rewrite [h1]
    cbv
    rewrite [e3]
    cbv
    rewrite [e4]
    cbv
    rewrite [e5]
    cbv
  ·
    rw [evl_fn (envV A) 36 _ _ (fn := Try.f36) (c := bd36) (lv := lvF36) rfl rfl rfl rfl rfl rfl]
    have hnle := hA.nleE; have hneq := hA.neqE
    have klt := hA.lt; have kle := hA.le; have keq := hA.eq; have knle := hA.nle; have kneq := hA.neq
    rw [lp_split (lpOf (envV A) 36 bd36) 3]
    generalize lpOf (envV A) 36 bd36 3 = L3 at e3 e4 e5 h1 ⊢
    generalize lpOf (envV A) 36 bd36 = LP
    generalize evl (envV A) = E at e3 e4 e5 h1 ⊢
    obtain ⟨aadd, asub, amul, arem, aquo, awr, ashr, aeq, alt, ale, aseq, aslt, acat, acut, asiz, aat, anle, aneq, afit⟩ := A
    simp only at hnle hneq
    subst hnle hneq
    simp only at klt kle keq knle kneq
    try simp only at h1
    conv at e3 => lhs; cbv
    conv at e4 => lhs; cbv
    conv at e5 => lhs; cbv
    cbv
    rewrite [h1]
    cbv
    rewrite [e3]
    cbv
    rewrite [e4]
    cbv
    rewrite [e5]
    cbv
end
end Go.Va
