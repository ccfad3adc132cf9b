/- The functions that the statement reaches, by equations: no statement of its own. -/
import Derived.Test.YtmklimlepgiffabEq8
set_option linter.unusedVariables false
set_option linter.unusedSimpArgs false
set_option linter.unusedSectionVars false
namespace Go.Va
open Go.Proofs
set_option maxRecDepth 100000
set_option maxHeartbeats 4000000
theorem eq_vt_tells (A : Ar) (o : Int) : evl (envV A) (.call 80 [.s (.int .i64 o)] []) = some (.ret (.s (.bool (bif A.eq o 5 then true else A.eq o 6))) []) := by
  rw [evl_fn (envV A) 80 _ _ (fn := Try.f80) (c := bd80) (lv := lvF80) rfl rfl rfl rfl rfl rfl]
  generalize lpOf (envV A) 80 bd80 = LP
  generalize evl (envV A) = E
  obtain ⟨aadd, asub, amul, arem, aquo, awr, ashr, aeq, alt, ale, aseq, aslt, acat, acut, asiz, aat, anle, aneq, afit⟩ := A
  cbv
  cases c1 : aeq o 5
  · cbv
  · cbv
def stBg (xs S : List AV) (t i : Nat) : St := { n := 51, k := 0, fr := [(0, .sl 3 xs .imm), (1, .s (.int .i64 (.ofNat t))), (6, .sl 1 S .full), (7, .s (.int .i64 (.ofNat i)))], O := [] }
def stBge (xs S : List AV) (t i : Nat) : St := { n := 51, k := 0, fr := [(0, .sl 3 xs .imm), (1, .s (.int .i64 (.ofNat t))), (6, .sl 1 S .full), (7, .s (.int .i64 (.ofNat i))), (10, .s (.bool false))], O := [] }
section
variable (A : Ar) (hA : ArOk A) (xs S S2 : List AV) (n i t m k : Nat) (o : Int) (a b : ByteArray)
include hA
theorem lp_bg_o {r : Option Res} (e0 : lget xs i = some (.agg [.s (.int .i64 o), .s (.string a), .s (.string b)])) (e1 : xs.length = n) (e2 : Nat.ble (Nat.succ i) n = true) (e3 : S.length = m)
    (h1 : A.lt (.ofNat i) (.ofNat t) = true) (h2 : A.eq o 1 = false) (h3 : A.eq o 2 = false) (h6 : A.add .i64 (.ofNat i) 1 = .ofNat (Nat.succ i))
    (hr : lpOf (envV A) 63 bd63 3 (stBg xs S t (Nat.succ i)) = r) : lpOf (envV A) 63 bd63 3 (stBg xs S t i) = r := by
  unfold stBg at hr ⊢
  rw [lp_step (envV A) 63 (c0 := bd63) (lv := lvF63) rfl rfl]
  have hnle := hA.nleE; have hneq := hA.neqE
  have klt := hA.lt; have kle := hA.le; have keq := hA.eq; have knle := hA.nle; have kneq := hA.neq
  rw [lp_split (lpOf (envV A) 63 bd63) 3]
  generalize lpOf (envV A) 63 bd63 3 = L3 at e0 e1 e2 e3 h1 h2 h3 h6 hr ⊢
  generalize lpOf (envV A) 63 bd63 = LP
  generalize evl (envV A) = E at e0 e1 e2 e3 h1 h2 h3 h6 hr ⊢
  obtain ⟨aadd, asub, amul, arem, aquo, awr, ashr, aeq, alt, ale, aseq, aslt, acat, acut, asiz, aat, anle, aneq, afit⟩ := A
  simp only at hnle hneq
  subst hnle hneq
  simp only at klt kle keq knle kneq
  try simp only at h1 h2 h3 h6 hr
  conv at e0 => lhs; cbv
  conv at e1 => lhs; cbv
  conv at e2 => lhs; cbv
  conv at e3 => lhs; cbv
  cbv
  rewrite [h1]
  cbv
  rewrite [e0]
  cbv
  rewrite [h2]
  cbv
  rewrite [e0]
  cbv
  rewrite [h3]
  cbv
  rewrite [h6]
  cbv
  rewrite [hr]
  cbv
theorem lp_bg_c0 {r : Option Res} (e0 : lget xs i = some (.agg [.s (.int .i64 o), .s (.string a), .s (.string b)])) (e1 : xs.length = n) (e2 : Nat.ble (Nat.succ i) n = true)
    (h1 : A.lt (.ofNat i) (.ofNat t) = true) (h2 : A.eq o 1 = false) (h3 : A.eq o 2 = true) (h6 : A.add .i64 (.ofNat i) 1 = .ofNat (Nat.succ i))
    (hr : lpOf (envV A) 63 bd63 3 (stBg xs [] t (Nat.succ i)) = r) : lpOf (envV A) 63 bd63 3 (stBg xs [] t i) = r := by
  unfold stBg at hr ⊢
  rw [lp_step (envV A) 63 (c0 := bd63) (lv := lvF63) rfl rfl]
  have hnle := hA.nleE; have hneq := hA.neqE
  have klt := hA.lt; have kle := hA.le; have keq := hA.eq; have knle := hA.nle; have kneq := hA.neq
  rw [lp_split (lpOf (envV A) 63 bd63) 3]
  generalize lpOf (envV A) 63 bd63 3 = L3 at e0 e1 e2 h1 h2 h3 h6 hr ⊢
  generalize lpOf (envV A) 63 bd63 = LP
  generalize evl (envV A) = E at e0 e1 e2 h1 h2 h3 h6 hr ⊢
  obtain ⟨aadd, asub, amul, arem, aquo, awr, ashr, aeq, alt, ale, aseq, aslt, acat, acut, asiz, aat, anle, aneq, afit⟩ := A
  simp only at hnle hneq
  subst hnle hneq
  simp only at klt kle keq knle kneq
  try simp only at h1 h2 h3 h6 hr
  conv at e0 => lhs; cbv
  conv at e1 => lhs; cbv
  conv at e2 => lhs; cbv
  cbv
  rewrite [h1]
  cbv
  rewrite [e0]
  cbv
  rewrite [h2]
  cbv
  rewrite [e0]
  cbv
  rewrite [h3]
  cbv
  rewrite [klt (0) (Int.ofNat 0)]
  cbv
  rewrite [h6]
  cbv
  rewrite [hr]
  cbv
theorem lp_bg_1 {r : Option Res} (e0 : lget xs i = some (.agg [.s (.int .i64 o), .s (.string a), .s (.string b)])) (e1 : xs.length = n) (e2 : Nat.ble (Nat.succ i) n = true) (e3 : S.length = m)
    (e4 : S ++ [.s (.int .i64 (.ofNat (Nat.succ i)))] = S2) (e5 : Nat.beq m m = true)
    (h1 : A.lt (.ofNat i) (.ofNat t) = true) (h2 : A.eq o 1 = true) (h3 : A.eq o 2 = false) (h4 : A.fit (Nat.succ m) 8 = true) (h6 : A.add .i64 (.ofNat i) 1 = .ofNat (Nat.succ i))
    (hr : lpOf (envV A) 63 bd63 3 (stBg xs S2 t (Nat.succ i)) = r) : lpOf (envV A) 63 bd63 3 (stBg xs S t i) = r := by
  unfold stBg at hr ⊢
  rw [lp_step (envV A) 63 (c0 := bd63) (lv := lvF63) rfl rfl]
  have hnle := hA.nleE; have hneq := hA.neqE
  have klt := hA.lt; have kle := hA.le; have keq := hA.eq; have knle := hA.nle; have kneq := hA.neq
  rw [lp_split (lpOf (envV A) 63 bd63) 3]
  generalize lpOf (envV A) 63 bd63 3 = L3 at e0 e1 e2 e3 e4 e5 h1 h2 h3 h4 h6 hr ⊢
  generalize lpOf (envV A) 63 bd63 = LP
  generalize evl (envV A) = E at e0 e1 e2 e3 e4 e5 h1 h2 h3 h4 h6 hr ⊢
  obtain ⟨aadd, asub, amul, arem, aquo, awr, ashr, aeq, alt, ale, aseq, aslt, acat, acut, asiz, aat, anle, aneq, afit⟩ := A
  simp only at hnle hneq
  subst hnle hneq
  simp only at klt kle keq knle kneq
  try simp only at h1 h2 h3 h4 h6 hr
  conv at e0 => lhs; cbv
  conv at e1 => lhs; cbv
  conv at e2 => lhs; cbv
  conv at e3 => lhs; cbv
  conv at e4 => lhs; cbv
  conv at e5 => lhs; cbv
  cbv
  rewrite [h1]
  cbv
  rewrite [e0]
  cbv
  rewrite [h2]
  cbv
  rewrite [e3]
  cbv
  rewrite [e5]
  cbv
  rewrite [h4]
  cbv
  rewrite [e0]
  cbv
  rewrite [h3]
  cbv
  rewrite [h6]
  cbv
  rewrite [e4]
  cbv
  rewrite [hr]
  cbv
theorem lp_bg_2 {r : Option Res} (e0 : lget xs i = some (.agg [.s (.int .i64 o), .s (.string a), .s (.string b)])) (e1 : xs.length = n) (e2 : Nat.ble (Nat.succ i) n = true) (e3 : S.length = Nat.succ m)
    (e4 : lcut S 0 m = S2) (e5 : Nat.ble m (Nat.succ m) = true) (e6 : 0 + m = m)
    (h1 : A.lt (.ofNat i) (.ofNat t) = true) (h2 : A.eq o 1 = false) (h3 : A.eq o 2 = true) (h4 : A.sub .i64 (.ofNat (Nat.succ m)) 1 = .ofNat m) (h5 : A.lt 0 (.ofNat (Nat.succ m)) = true) (h6 : A.add .i64 (.ofNat i) 1 = .ofNat (Nat.succ i))
    (hr : lpOf (envV A) 63 bd63 3 (stBg xs S2 t (Nat.succ i)) = r) : lpOf (envV A) 63 bd63 3 (stBg xs S t i) = r := by
  unfold stBg at hr ⊢
  rw [lp_step (envV A) 63 (c0 := bd63) (lv := lvF63) rfl rfl]
  have hnle := hA.nleE; have hneq := hA.neqE
  have klt := hA.lt; have kle := hA.le; have keq := hA.eq; have knle := hA.nle; have kneq := hA.neq
  rw [lp_split (lpOf (envV A) 63 bd63) 3]
  generalize lpOf (envV A) 63 bd63 3 = L3 at e0 e1 e2 e3 e4 e5 e6 h1 h2 h3 h4 h5 h6 hr ⊢
  generalize lpOf (envV A) 63 bd63 = LP
  generalize evl (envV A) = E at e0 e1 e2 e3 e4 e5 e6 h1 h2 h3 h4 h5 h6 hr ⊢
  obtain ⟨aadd, asub, amul, arem, aquo, awr, ashr, aeq, alt, ale, aseq, aslt, acat, acut, asiz, aat, anle, aneq, afit⟩ := A
  simp only at hnle hneq
  subst hnle hneq
  simp only at klt kle keq knle kneq
  try simp only at h1 h2 h3 h4 h5 h6 hr
  conv at e0 => lhs; cbv
  conv at e1 => lhs; cbv
  conv at e2 => lhs; cbv
  conv at e3 => lhs; cbv
  conv at e4 => lhs; cbv
  conv at e5 => lhs; cbv
  conv at e6 => lhs; cbv
  cbv
  rewrite [h1]
  cbv
  rewrite [e0]
  cbv
  rewrite [h2]
  cbv
  rewrite [e0]
  cbv
  rewrite [h3]
  cbv
  rewrite [e3]
  cbv
  rewrite [h5]
  cbv
  rewrite [e3]
  cbv
  rewrite [h4]
  cbv
  rewrite [e5]
  cbv
  rewrite [e3]
  cbv
  rewrite [e4]
  cbv
  rewrite [e5]
  cbv
  rewrite [h6]
  cbv
  rewrite [hr]
  cbv
theorem lp_bg_end (e3 : S.length = m) (h1 : A.lt (.ofNat i) (.ofNat t) = false) : lpOf (envV A) 63 bd63 3 (stBg xs S t i) = some (.code (.exit 0) (stBge xs S t i)) := by
  unfold stBg stBge
  rw [lp_step (envV A) 63 (c0 := bd63) (lv := lvF63) rfl rfl]
  have hnle := hA.nleE; have hneq := hA.neqE
  generalize lpOf (envV A) 63 bd63 = LP
  generalize evl (envV A) = E at e3 h1 ⊢
  obtain ⟨aadd, asub, amul, arem, aquo, awr, ashr, aeq, alt, ale, aseq, aslt, acat, acut, asiz, aat, anle, aneq, afit⟩ := A
  simp only at hnle hneq
  subst hnle hneq
  try simp only at h1
  conv at e3 => lhs; cbv
  cbv
  rewrite [h1]
  cbv
theorem eq_begin0 (h1 : lpOf (envV A) 63 bd63 3 (stBg xs [] t 0) = some (.code (.exit 0) (stBge xs [] t i))) :
    evl (envV A) (.call 63 [.sl 3 xs .imm, .s (.int .i64 (.ofNat t))] []) = some (.ret (.tup [.s (.int .i64 0), .s (.int .i64 0)]) []) := by
  unfold stBg stBge at h1
  simp only [show Int.ofNat 0 = 0 from rfl] at h1
  rw [evl_fn (envV A) 63 _ _ (fn := Try.f63) (c := bd63) (lv := lvF63) rfl rfl rfl rfl rfl rfl]
  have hnle := hA.nleE; have hneq := hA.neqE
  have klt := hA.lt; have kle := hA.le; have keq := hA.eq; have knle := hA.nle; have kneq := hA.neq
  rw [lp_split (lpOf (envV A) 63 bd63) 3]
  generalize lpOf (envV A) 63 bd63 3 = L3 at h1 ⊢
  generalize lpOf (envV A) 63 bd63 = LP
  generalize evl (envV A) = E at h1 ⊢
  obtain ⟨aadd, asub, amul, arem, aquo, awr, ashr, aeq, alt, ale, aseq, aslt, acat, acut, asiz, aat, anle, aneq, afit⟩ := A
  simp only at hnle hneq
  subst hnle hneq
  simp only at klt kle keq knle kneq
  try simp only at h1
  cbv
  rewrite [h1]
  cbv
  rewrite [keq (Int.ofNat 0) (0)]
  cbv
theorem eq_begin1 (e1 : S.length = Nat.succ m) (e2 : lget S m = some (.s (.int .i64 (.ofNat k)))) (e3 : Nat.ble (Nat.succ m) (Nat.succ m) = true) (e4 : 0 + m = m) (h2 : A.eq (.ofNat (Nat.succ m)) 0 = false) (h4 : A.sub .i64 (.ofNat (Nat.succ m)) 1 = .ofNat m) (h1 : lpOf (envV A) 63 bd63 3 (stBg xs [] t 0) = some (.code (.exit 0) (stBge xs S t i))) :
    evl (envV A) (.call 63 [.sl 3 xs .imm, .s (.int .i64 (.ofNat t))] []) = some (.ret (.tup [.s (.int .i64 (.ofNat k)), .s (.int .i64 (.ofNat (Nat.succ m)))]) []) := by
  unfold stBg stBge at h1
  simp only [show Int.ofNat 0 = 0 from rfl] at h1
  rw [evl_fn (envV A) 63 _ _ (fn := Try.f63) (c := bd63) (lv := lvF63) rfl rfl rfl rfl rfl rfl]
  have hnle := hA.nleE; have hneq := hA.neqE
  have klt := hA.lt; have kle := hA.le; have keq := hA.eq; have knle := hA.nle; have kneq := hA.neq
  rw [lp_split (lpOf (envV A) 63 bd63) 3]
  generalize lpOf (envV A) 63 bd63 3 = L3 at e1 e2 e3 e4 h1 h2 h4 ⊢
  generalize lpOf (envV A) 63 bd63 = LP
  generalize evl (envV A) = E at e1 e2 e3 e4 h1 h2 h4 ⊢
  obtain ⟨aadd, asub, amul, arem, aquo, awr, ashr, aeq, alt, ale, aseq, aslt, acat, acut, asiz, aat, anle, aneq, afit⟩ := A
  simp only at hnle hneq
  subst hnle hneq
  simp only at klt kle keq knle kneq
  try simp only at h1 h2 h4
  conv at e1 => lhs; cbv
  conv at e2 => lhs; cbv
  conv at e3 => lhs; cbv
  conv at e4 => lhs; cbv
  cbv
  rewrite [h1]
  cbv
  rewrite [e1]
  cbv
  rewrite [h2]
  cbv
  rewrite [e1]
  cbv
  rewrite [h4]
  cbv
  rewrite [e3]
  cbv
  rewrite [e4]
  cbv
  rewrite [e2]
  cbv
  rewrite [e1]
  cbv
end
end Go.Va
namespace Go.Va
open Go.Proofs
set_option maxRecDepth 100000
set_option maxHeartbeats 4000000
def stAt (xs : List AV) (t : Nat) (c : Int) (z : Int) : St := { n := 54, k := 0, fr := [(0, .sl 3 xs .imm), (1, .s (.int .i64 (.ofNat t))), (5, .s (.int .i64 c)), (6, .s (.int .i64 z))], O := [] }
def stAte (xs : List AV) (t : Nat) (c : Int) (z : Int) : St := { n := 54, k := 0, fr := [(0, .sl 3 xs .imm), (1, .s (.int .i64 (.ofNat t))), (5, .s (.int .i64 c)), (6, .s (.int .i64 z)), (18, .s (.bool false))], O := [] }
def stAt9 : St := { n := 54, k := 0, fr := [(4, .s (.int .i64 9))], O := [] }
section
variable (A : Ar) (hA : ArOk A) (xs : List AV) (n k t : Nat) (c c2 z z2 : Int) (o oT : Int) (a b aT bT : ByteArray)
include hA
theorem lp_at_on {r : Option Res} (e0 : lget xs k = some (.agg [.s (.int .i64 o), .s (.string a), .s (.string b)])) (e1 : xs.length = n) (e2 : Nat.ble (Nat.succ k) n = true)
    (e3 : lget xs t = some (.agg [.s (.int .i64 oT), .s (.string aT), .s (.string bT)])) (e4 : Nat.ble (Nat.succ t) n = true)
    (h1 : A.le 0 (.ofNat k) = true) (h2 : evl (envV A) (.call 80 [.s (.int .i64 o)] []) = some (.ret (.s (.bool true)) [])) (h3 : A.seq a aT = false) (h4 : A.add .i64 c 1 = c2) (h5 : A.sub .i64 (.ofNat k) 1 = z2)
    (hr : lpOf (envV A) 101 bd101 3 (stAt xs t c2 z2) = r) : lpOf (envV A) 101 bd101 3 (stAt xs t c (.ofNat k)) = r := by
  unfold stAt at hr ⊢
  rw [lp_step (envV A) 101 (c0 := bd101) (lv := lvF101) rfl rfl]
  have hnle := hA.nleE; have hneq := hA.neqE
  have klt := hA.lt; have kle := hA.le; have keq := hA.eq; have knle := hA.nle; have kneq := hA.neq
  rw [lp_split (lpOf (envV A) 101 bd101) 3]
  generalize lpOf (envV A) 101 bd101 3 = L3 at e0 e1 e2 e3 e4 h1 h2 h3 h4 h5 hr ⊢
  generalize lpOf (envV A) 101 bd101 = LP
  generalize evl (envV A) = E at e0 e1 e2 e3 e4 h1 h2 h3 h4 h5 hr ⊢
  obtain ⟨aadd, asub, amul, arem, aquo, awr, ashr, aeq, alt, ale, aseq, aslt, acat, acut, asiz, aat, anle, aneq, afit⟩ := A
  simp only at hnle hneq
  subst hnle hneq
  simp only at klt kle keq knle kneq
  try simp only at h1 h2 h3 h4 h5 hr
  conv at e0 => lhs; cbv
  conv at e1 => lhs; cbv
  conv at e2 => lhs; cbv
  conv at e3 => lhs; cbv
  conv at e4 => lhs; cbv
  cbv
  rewrite [h1]
  cbv
  rewrite [e0]
  cbv
  rewrite [h2]
  cbv
  rewrite [e0]
  cbv
  rewrite [e3]
  cbv
  rewrite [h3]
  cbv
  rewrite [h4]
  cbv
  rewrite [h5]
  cbv
  rewrite [hr]
  cbv
theorem lp_at_9 (e0 : lget xs k = some (.agg [.s (.int .i64 o), .s (.string a), .s (.string b)])) (e1 : xs.length = n) (e2 : Nat.ble (Nat.succ k) n = true)
    (e3 : lget xs t = some (.agg [.s (.int .i64 oT), .s (.string aT), .s (.string bT)])) (e4 : Nat.ble (Nat.succ t) n = true)
    (h1 : A.le 0 (.ofNat k) = true) (h2 : evl (envV A) (.call 80 [.s (.int .i64 o)] []) = some (.ret (.s (.bool true)) [])) (h3 : A.seq a aT = true) :
    lpOf (envV A) 101 bd101 3 (stAt xs t c (.ofNat k)) = some (.code .ret stAt9) := by
  unfold stAt stAt9
  rw [lp_step (envV A) 101 (c0 := bd101) (lv := lvF101) rfl rfl]
  have hnle := hA.nleE; have hneq := hA.neqE
  have klt := hA.lt; have kle := hA.le; have keq := hA.eq; have knle := hA.nle; have kneq := hA.neq
  rw [lp_split (lpOf (envV A) 101 bd101) 3]
  generalize lpOf (envV A) 101 bd101 3 = L3 at e0 e1 e2 e3 e4 h1 h2 h3 ⊢
  generalize lpOf (envV A) 101 bd101 = LP
  generalize evl (envV A) = E at e0 e1 e2 e3 e4 h1 h2 h3 ⊢
  obtain ⟨aadd, asub, amul, arem, aquo, awr, ashr, aeq, alt, ale, aseq, aslt, acat, acut, asiz, aat, anle, aneq, afit⟩ := A
  simp only at hnle hneq
  subst hnle hneq
  simp only at klt kle keq knle kneq
  try simp only at h1 h2 h3
  conv at e0 => lhs; cbv
  conv at e1 => lhs; cbv
  conv at e2 => lhs; cbv
  conv at e3 => lhs; cbv
  conv at e4 => lhs; cbv
  cbv
  rewrite [h1]
  cbv
  rewrite [e0]
  cbv
  rewrite [h2]
  cbv
  rewrite [e0]
  cbv
  rewrite [e3]
  cbv
  rewrite [h3]
  cbv
theorem lp_at_end (e0 : lget xs k = some (.agg [.s (.int .i64 o), .s (.string a), .s (.string b)])) (e1 : xs.length = n) (e2 : Nat.ble (Nat.succ k) n = true)
    (h1 : A.le 0 (.ofNat k) = true) (h2 : evl (envV A) (.call 80 [.s (.int .i64 o)] []) = some (.ret (.s (.bool false)) [])) :
    lpOf (envV A) 101 bd101 3 (stAt xs t c (.ofNat k)) = some (.code (.exit 0) (stAte xs t c (.ofNat k))) := by
  unfold stAt stAte
  rw [lp_step (envV A) 101 (c0 := bd101) (lv := lvF101) rfl rfl]
  have hnle := hA.nleE; have hneq := hA.neqE
  have klt := hA.lt; have kle := hA.le; have keq := hA.eq; have knle := hA.nle; have kneq := hA.neq
  rw [lp_split (lpOf (envV A) 101 bd101) 3]
  generalize lpOf (envV A) 101 bd101 3 = L3 at e0 e1 e2 h1 h2 ⊢
  generalize lpOf (envV A) 101 bd101 = LP
  generalize evl (envV A) = E at e0 e1 e2 h1 h2 ⊢
  obtain ⟨aadd, asub, amul, arem, aquo, awr, ashr, aeq, alt, ale, aseq, aslt, acat, acut, asiz, aat, anle, aneq, afit⟩ := A
  simp only at hnle hneq
  subst hnle hneq
  simp only at klt kle keq knle kneq
  try simp only at h1 h2
  conv at e0 => lhs; cbv
  conv at e1 => lhs; cbv
  conv at e2 => lhs; cbv
  cbv
  rewrite [h1]
  cbv
  rewrite [e0]
  cbv
  rewrite [h2]
  cbv
theorem lp_at_end0 (h1 : A.le 0 (-1) = false) :
    lpOf (envV A) 101 bd101 3 (stAt xs t c (-1)) = some (.code (.exit 0) (stAte xs t c (-1))) := by
  unfold stAt stAte
  rw [lp_step (envV A) 101 (c0 := bd101) (lv := lvF101) rfl rfl]
  have hnle := hA.nleE; have hneq := hA.neqE
  have klt := hA.lt; have kle := hA.le; have keq := hA.eq; have knle := hA.nle; have kneq := hA.neq
  rw [lp_split (lpOf (envV A) 101 bd101) 3]
  generalize lpOf (envV A) 101 bd101 3 = L3 at h1 ⊢
  generalize lpOf (envV A) 101 bd101 = LP
  generalize evl (envV A) = E at h1 ⊢
  obtain ⟨aadd, asub, amul, arem, aquo, awr, ashr, aeq, alt, ale, aseq, aslt, acat, acut, asiz, aat, anle, aneq, afit⟩ := A
  simp only at hnle hneq
  subst hnle hneq
  simp only at klt kle keq knle kneq
  try simp only at h1
  cbv
  rewrite [h1]
  cbv
theorem eq_attr9 (h0 : A.sub .i64 (.ofNat t) 1 = z) (h1 : lpOf (envV A) 101 bd101 3 (stAt xs t 0 z) = some (.code .ret stAt9)) :
    evl (envV A) (.call 101 [.sl 3 xs .imm, .s (.int .i64 (.ofNat t))] []) = some (.ret (.s (.int .i64 9)) []) := by
  unfold stAt stAt9 at h1
  rw [evl_fn (envV A) 101 _ _ (fn := Try.f101) (c := bd101) (lv := lvF101) rfl rfl rfl rfl rfl rfl]
  have hnle := hA.nleE; have hneq := hA.neqE
  have klt := hA.lt; have kle := hA.le; have keq := hA.eq; have knle := hA.nle; have kneq := hA.neq
  rw [lp_split (lpOf (envV A) 101 bd101) 3]
  generalize lpOf (envV A) 101 bd101 3 = L3 at h0 h1 ⊢
  generalize lpOf (envV A) 101 bd101 = LP
  generalize evl (envV A) = E at h0 h1 ⊢
  obtain ⟨aadd, asub, amul, arem, aquo, awr, ashr, aeq, alt, ale, aseq, aslt, acat, acut, asiz, aat, anle, aneq, afit⟩ := A
  simp only at hnle hneq
  subst hnle hneq
  simp only at klt kle keq knle kneq
  try simp only at h0 h1
  cbv
  rewrite [h0]
  cbv
  rewrite [h1]
  cbv
theorem eq_attr9a (h0 : A.sub .i64 (.ofNat t) 1 = z) (h1 : lpOf (envV A) 101 bd101 3 (stAt xs t 0 z) = some (.code (.exit 0) (stAte xs t c (-1)))) (h2 : A.lt (-1) 0 = true) :
    evl (envV A) (.call 101 [.sl 3 xs .imm, .s (.int .i64 (.ofNat t))] []) = some (.ret (.s (.int .i64 9)) []) := by
  unfold stAt stAte at h1
  rw [evl_fn (envV A) 101 _ _ (fn := Try.f101) (c := bd101) (lv := lvF101) rfl rfl rfl rfl rfl rfl]
  have hnle := hA.nleE; have hneq := hA.neqE
  have klt := hA.lt; have kle := hA.le; have keq := hA.eq; have knle := hA.nle; have kneq := hA.neq
  rw [lp_split (lpOf (envV A) 101 bd101) 3]
  generalize lpOf (envV A) 101 bd101 3 = L3 at h0 h1 h2 ⊢
  generalize lpOf (envV A) 101 bd101 = LP
  generalize evl (envV A) = E at h0 h1 h2 ⊢
  obtain ⟨aadd, asub, amul, arem, aquo, awr, ashr, aeq, alt, ale, aseq, aslt, acat, acut, asiz, aat, anle, aneq, afit⟩ := A
  simp only at hnle hneq
  subst hnle hneq
  simp only at klt kle keq knle kneq
  try simp only at h0 h1 h2
  cbv
  rewrite [h0]
  cbv
  rewrite [h1]
  cbv
  rewrite [h2]
  cbv
theorem eq_attr (e0 : lget xs k = some (.agg [.s (.int .i64 o), .s (.string a), .s (.string b)])) (e1 : xs.length = n) (e2 : Nat.ble (Nat.succ k) n = true) (h0 : A.sub .i64 (.ofNat t) 1 = z) (h1 : lpOf (envV A) 101 bd101 3 (stAt xs t 0 z) = some (.code (.exit 0) (stAte xs t c (.ofNat k)))) (h2 : A.lt (.ofNat k) 0 = false) :
    evl (envV A) (.call 101 [.sl 3 xs .imm, .s (.int .i64 (.ofNat t))] []) = some (.ret (.s (.int .i64 (bif A.le 8 c then 9 else bif A.eq o 1 then 0 else bif A.eq o 3 then 0 else 9))) []) := by
  unfold stAt stAte at h1
  rw [evl_fn (envV A) 101 _ _ (fn := Try.f101) (c := bd101) (lv := lvF101) rfl rfl rfl rfl rfl rfl]
  have hnle := hA.nleE; have hneq := hA.neqE
  rw [lp_split (lpOf (envV A) 101 bd101) 3]
  generalize lpOf (envV A) 101 bd101 3 = L3 at e0 e1 e2 h0 h1 h2 ⊢
  generalize lpOf (envV A) 101 bd101 = LP
  generalize evl (envV A) = E at e0 e1 e2 h0 h1 h2 ⊢
  obtain ⟨aadd, asub, amul, arem, aquo, awr, ashr, aeq, alt, ale, aseq, aslt, acat, acut, asiz, aat, anle, aneq, afit⟩ := A
  simp only at hnle hneq
  subst hnle hneq
  try simp only at h0 h1 h2
  conv at e0 => lhs; cbv
  conv at e1 => lhs; cbv
  conv at e2 => lhs; cbv
  cbv
  rewrite [h0]
  cbv
  rewrite [h1]
  cbv
  rewrite [h2]
  cbv
  cases c1 : ale 8 c
  · cbv
    rewrite [e0]
    cbv
    cases c2 : aeq o 1
    · cbv
      rewrite [e0]
      cbv
      cases c3 : aeq o 3
      · cbv
      · cbv
    · cbv
  · cbv
end
def stAh (xs out : List AV) (t : Nat) (d : Int) (i : Nat) : St := { n := 56, k := 0, fr := [(0, .sl 3 xs .imm), (1, .s (.int .i64 (.ofNat t))), (7, .sl 3 out .full), (8, .s (.int .i64 d)), (9, .s (.int .i64 (.ofNat i)))], O := [] }
def stAhe (xs out : List AV) (t : Nat) (d : Int) (i : Nat) : St := { n := 56, k := 0, fr := [(0, .sl 3 xs .imm), (1, .s (.int .i64 (.ofNat t))), (7, .sl 3 out .full), (8, .s (.int .i64 d)), (9, .s (.int .i64 (.ofNat i))), (19, .s (.bool false))], O := [] }
section
variable (A : Ar) (hA : ArOk A) (xs out out2 : List AV) (n i t m k : Nat) (d d2 dd : Int) (o : Int) (a b : ByteArray)
include hA
/-- at depth 0, no Close: it is taken -/
theorem lp_ah_0 {r : Option Res} (e0 : lget xs i = some (.agg [.s (.int .i64 o), .s (.string a), .s (.string b)])) (e1 : xs.length = n) (e2 : Nat.ble (Nat.succ i) n = true) (e3 : out.length = m)
    (e4 : out ++ [.agg [.s (.int .i64 o), .s (.string a), .s (.string b)]] = out2) (e5 : Nat.beq m m = true)
    (h1 : A.lt (.ofNat i) (.ofNat t) = true) (h2 : A.eq d 0 = true) (h3 : A.eq o 2 = false) (h4 : A.fit (Nat.succ m) 40 = true) (h5 : A.eq o 1 = false) (h6 : A.add .i64 (.ofNat i) 1 = .ofNat (Nat.succ i))
    (hr : lpOf (envV A) 102 bd102 5 (stAh xs out2 t d (Nat.succ i)) = r) : lpOf (envV A) 102 bd102 5 (stAh xs out t d i) = r := by
  unfold stAh at hr ⊢
  rw [lp_step (envV A) 102 (c0 := bd102) (lv := lvF102) rfl rfl]
  have hnle := hA.nleE; have hneq := hA.neqE
  have klt := hA.lt; have kle := hA.le; have keq := hA.eq; have knle := hA.nle; have kneq := hA.neq
  rw [lp_split (lpOf (envV A) 102 bd102) 5]
  generalize lpOf (envV A) 102 bd102 5 = L5 at e0 e1 e2 e3 e4 e5 h1 h2 h3 h4 h5 h6 hr ⊢
  generalize lpOf (envV A) 102 bd102 = LP
  generalize evl (envV A) = E at e0 e1 e2 e3 e4 e5 h1 h2 h3 h4 h5 h6 hr ⊢
  obtain ⟨aadd, asub, amul, arem, aquo, awr, ashr, aeq, alt, ale, aseq, aslt, acat, acut, asiz, aat, anle, aneq, afit⟩ := A
  simp only at hnle hneq
  subst hnle hneq
  simp only at klt kle keq knle kneq
  try simp only at h1 h2 h3 h4 h5 h6 hr
  conv at e0 => lhs; cbv
  conv at e1 => lhs; cbv
  conv at e2 => lhs; cbv
  conv at e3 => lhs; cbv
  conv at e4 => lhs; cbv
  conv at e5 => lhs; cbv
  cbv
  rewrite [h1]
  cbv
  rewrite [h2]
  cbv
  rewrite [e0]
  cbv
  rewrite [h3]
  cbv
  rewrite [e0]
  cbv
  rewrite [e3]
  cbv
  rewrite [e4]
  cbv
  rewrite [e5]
  cbv
  rewrite [h4]
  cbv
  rewrite [e0]
  cbv
  rewrite [h5]
  cbv
  rewrite [e0]
  cbv
  rewrite [h3]
  cbv
  rewrite [h6]
  cbv
  rewrite [hr]
  cbv
theorem lp_ah_01 {r : Option Res} (e0 : lget xs i = some (.agg [.s (.int .i64 o), .s (.string a), .s (.string b)])) (e1 : xs.length = n) (e2 : Nat.ble (Nat.succ i) n = true) (e3 : out.length = m)
    (e4 : out ++ [.agg [.s (.int .i64 o), .s (.string a), .s (.string b)]] = out2) (e5 : Nat.beq m m = true)
    (h1 : A.lt (.ofNat i) (.ofNat t) = true) (h2 : A.eq d 0 = true) (h3 : A.eq o 2 = false) (h4 : A.fit (Nat.succ m) 40 = true) (h5 : A.eq o 1 = true) (h7 : A.add .i64 d 1 = d2) (h6 : A.add .i64 (.ofNat i) 1 = .ofNat (Nat.succ i))
    (hr : lpOf (envV A) 102 bd102 5 (stAh xs out2 t d2 (Nat.succ i)) = r) : lpOf (envV A) 102 bd102 5 (stAh xs out t d i) = r := by
  unfold stAh at hr ⊢
  rw [lp_step (envV A) 102 (c0 := bd102) (lv := lvF102) rfl rfl]
  have hnle := hA.nleE; have hneq := hA.neqE
  have klt := hA.lt; have kle := hA.le; have keq := hA.eq; have knle := hA.nle; have kneq := hA.neq
  rw [lp_split (lpOf (envV A) 102 bd102) 5]
  generalize lpOf (envV A) 102 bd102 5 = L5 at e0 e1 e2 e3 e4 e5 h1 h2 h3 h4 h5 h7 h6 hr ⊢
  generalize lpOf (envV A) 102 bd102 = LP
  generalize evl (envV A) = E at e0 e1 e2 e3 e4 e5 h1 h2 h3 h4 h5 h7 h6 hr ⊢
  obtain ⟨aadd, asub, amul, arem, aquo, awr, ashr, aeq, alt, ale, aseq, aslt, acat, acut, asiz, aat, anle, aneq, afit⟩ := A
  simp only at hnle hneq
  subst hnle hneq
  simp only at klt kle keq knle kneq
  try simp only at h1 h2 h3 h4 h5 h7 h6 hr
  conv at e0 => lhs; cbv
  conv at e1 => lhs; cbv
  conv at e2 => lhs; cbv
  conv at e3 => lhs; cbv
  conv at e4 => lhs; cbv
  conv at e5 => lhs; cbv
  cbv
  rewrite [h1]
  cbv
  rewrite [h2]
  cbv
  rewrite [e0]
  cbv
  rewrite [h3]
  cbv
  rewrite [e0]
  cbv
  rewrite [e3]
  cbv
  rewrite [e4]
  cbv
  rewrite [e5]
  cbv
  rewrite [h4]
  cbv
  rewrite [e0]
  cbv
  rewrite [h5]
  cbv
  rewrite [e0]
  cbv
  rewrite [h3]
  cbv
  rewrite [h7]
  cbv
  rewrite [h6]
  cbv
  rewrite [hr]
  cbv
theorem lp_ah_d {r : Option Res} (e0 : lget xs i = some (.agg [.s (.int .i64 o), .s (.string a), .s (.string b)])) (e1 : xs.length = n) (e2 : Nat.ble (Nat.succ i) n = true) (e3 : out.length = m)
    (h1 : A.lt (.ofNat i) (.ofNat t) = true) (h2 : A.eq d 0 = false) (h3 : A.eq o 2 = false) (h5 : A.eq o 1 = false) (h6 : A.add .i64 (.ofNat i) 1 = .ofNat (Nat.succ i))
    (hr : lpOf (envV A) 102 bd102 5 (stAh xs out t d (Nat.succ i)) = r) : lpOf (envV A) 102 bd102 5 (stAh xs out t d i) = r := by
  unfold stAh at hr ⊢
  rw [lp_step (envV A) 102 (c0 := bd102) (lv := lvF102) rfl rfl]
  have hnle := hA.nleE; have hneq := hA.neqE
  have klt := hA.lt; have kle := hA.le; have keq := hA.eq; have knle := hA.nle; have kneq := hA.neq
  rw [lp_split (lpOf (envV A) 102 bd102) 5]
  generalize lpOf (envV A) 102 bd102 5 = L5 at e0 e1 e2 e3 h1 h2 h3 h5 h6 hr ⊢
  generalize lpOf (envV A) 102 bd102 = LP
  generalize evl (envV A) = E at e0 e1 e2 e3 h1 h2 h3 h5 h6 hr ⊢
  obtain ⟨aadd, asub, amul, arem, aquo, awr, ashr, aeq, alt, ale, aseq, aslt, acat, acut, asiz, aat, anle, aneq, afit⟩ := A
  simp only at hnle hneq
  subst hnle hneq
  simp only at klt kle keq knle kneq
  try simp only at h1 h2 h3 h5 h6 hr
  conv at e0 => lhs; cbv
  conv at e1 => lhs; cbv
  conv at e2 => lhs; cbv
  conv at e3 => lhs; cbv
  cbv
  rewrite [h1]
  cbv
  rewrite [h2]
  cbv
  rewrite [e0]
  cbv
  rewrite [h5]
  cbv
  rewrite [e0]
  cbv
  rewrite [h3]
  cbv
  rewrite [h6]
  cbv
  rewrite [hr]
  cbv
theorem lp_ah_d1 {r : Option Res} (e0 : lget xs i = some (.agg [.s (.int .i64 o), .s (.string a), .s (.string b)])) (e1 : xs.length = n) (e2 : Nat.ble (Nat.succ i) n = true) (e3 : out.length = m)
    (h1 : A.lt (.ofNat i) (.ofNat t) = true) (h2 : A.eq d 0 = false) (h3 : A.eq o 2 = false) (h5 : A.eq o 1 = true) (h7 : A.add .i64 d 1 = d2) (h6 : A.add .i64 (.ofNat i) 1 = .ofNat (Nat.succ i))
    (hr : lpOf (envV A) 102 bd102 5 (stAh xs out t d2 (Nat.succ i)) = r) : lpOf (envV A) 102 bd102 5 (stAh xs out t d i) = r := by
  unfold stAh at hr ⊢
  rw [lp_step (envV A) 102 (c0 := bd102) (lv := lvF102) rfl rfl]
  have hnle := hA.nleE; have hneq := hA.neqE
  have klt := hA.lt; have kle := hA.le; have keq := hA.eq; have knle := hA.nle; have kneq := hA.neq
  rw [lp_split (lpOf (envV A) 102 bd102) 5]
  generalize lpOf (envV A) 102 bd102 5 = L5 at e0 e1 e2 e3 h1 h2 h3 h5 h7 h6 hr ⊢
  generalize lpOf (envV A) 102 bd102 = LP
  generalize evl (envV A) = E at e0 e1 e2 e3 h1 h2 h3 h5 h7 h6 hr ⊢
  obtain ⟨aadd, asub, amul, arem, aquo, awr, ashr, aeq, alt, ale, aseq, aslt, acat, acut, asiz, aat, anle, aneq, afit⟩ := A
  simp only at hnle hneq
  subst hnle hneq
  simp only at klt kle keq knle kneq
  try simp only at h1 h2 h3 h5 h7 h6 hr
  conv at e0 => lhs; cbv
  conv at e1 => lhs; cbv
  conv at e2 => lhs; cbv
  conv at e3 => lhs; cbv
  cbv
  rewrite [h1]
  cbv
  rewrite [h2]
  cbv
  rewrite [e0]
  cbv
  rewrite [h5]
  cbv
  rewrite [e0]
  cbv
  rewrite [h3]
  cbv
  rewrite [h7]
  cbv
  rewrite [h6]
  cbv
  rewrite [hr]
  cbv
theorem lp_ah_d2 {r : Option Res} (q : Bool) (e0 : lget xs i = some (.agg [.s (.int .i64 o), .s (.string a), .s (.string b)])) (e1 : xs.length = n) (e2 : Nat.ble (Nat.succ i) n = true) (e3 : out.length = m)
    (h1 : A.lt (.ofNat i) (.ofNat t) = true) (h2 : A.eq d 0 = false) (h3 : A.eq o 2 = true) (h5 : A.eq o 1 = false) (h7 : A.sub .i64 d 1 = d2) (h6 : A.add .i64 (.ofNat i) 1 = .ofNat (Nat.succ i))
    (hr : lpOf (envV A) 102 bd102 5 (stAh xs out t d2 (Nat.succ i)) = r) : lpOf (envV A) 102 bd102 5 (stAh xs out t d i) = r := by
  unfold stAh at hr ⊢
  rw [lp_step (envV A) 102 (c0 := bd102) (lv := lvF102) rfl rfl]
  have hnle := hA.nleE; have hneq := hA.neqE
  have klt := hA.lt; have kle := hA.le; have keq := hA.eq; have knle := hA.nle; have kneq := hA.neq
  rw [lp_split (lpOf (envV A) 102 bd102) 5]
  generalize lpOf (envV A) 102 bd102 5 = L5 at e0 e1 e2 e3 h1 h2 h3 h5 h7 h6 hr ⊢
  generalize lpOf (envV A) 102 bd102 = LP
  generalize evl (envV A) = E at e0 e1 e2 e3 h1 h2 h3 h5 h7 h6 hr ⊢
  obtain ⟨aadd, asub, amul, arem, aquo, awr, ashr, aeq, alt, ale, aseq, aslt, acat, acut, asiz, aat, anle, aneq, afit⟩ := A
  simp only at hnle hneq
  subst hnle hneq
  simp only at klt kle keq knle kneq
  try simp only at h1 h2 h3 h5 h7 h6 hr
  conv at e0 => lhs; cbv
  conv at e1 => lhs; cbv
  conv at e2 => lhs; cbv
  conv at e3 => lhs; cbv
  cbv
  rewrite [h1]
  cbv
  rewrite [h2]
  cbv
  rewrite [e0]
  cbv
  rewrite [h5]
  cbv
  rewrite [e0]
  cbv
  rewrite [h3]
  cbv
  rewrite [h7]
  cbv
  rewrite [h6]
  cbv
  rewrite [hr]
  cbv
theorem lp_ah_02 {r : Option Res} (e0 : lget xs i = some (.agg [.s (.int .i64 o), .s (.string a), .s (.string b)])) (e1 : xs.length = n) (e2 : Nat.ble (Nat.succ i) n = true) (e3 : out.length = m)
    (h1 : A.lt (.ofNat i) (.ofNat t) = true) (h2 : A.eq d 0 = true) (h3 : A.eq o 2 = true) (h5 : A.eq o 1 = false) (h7 : A.sub .i64 d 1 = d2) (h6 : A.add .i64 (.ofNat i) 1 = .ofNat (Nat.succ i))
    (hr : lpOf (envV A) 102 bd102 5 (stAh xs out t d2 (Nat.succ i)) = r) : lpOf (envV A) 102 bd102 5 (stAh xs out t d i) = r := by
  unfold stAh at hr ⊢
  rw [lp_step (envV A) 102 (c0 := bd102) (lv := lvF102) rfl rfl]
  have hnle := hA.nleE; have hneq := hA.neqE
  have klt := hA.lt; have kle := hA.le; have keq := hA.eq; have knle := hA.nle; have kneq := hA.neq
  rw [lp_split (lpOf (envV A) 102 bd102) 5]
  generalize lpOf (envV A) 102 bd102 5 = L5 at e0 e1 e2 e3 h1 h2 h3 h5 h7 h6 hr ⊢
  generalize lpOf (envV A) 102 bd102 = LP
  generalize evl (envV A) = E at e0 e1 e2 e3 h1 h2 h3 h5 h7 h6 hr ⊢
  obtain ⟨aadd, asub, amul, arem, aquo, awr, ashr, aeq, alt, ale, aseq, aslt, acat, acut, asiz, aat, anle, aneq, afit⟩ := A
  simp only at hnle hneq
  subst hnle hneq
  simp only at klt kle keq knle kneq
  try simp only at h1 h2 h3 h5 h7 h6 hr
  conv at e0 => lhs; cbv
  conv at e1 => lhs; cbv
  conv at e2 => lhs; cbv
  conv at e3 => lhs; cbv
  cbv
  rewrite [h1]
  cbv
  rewrite [h2]
  cbv
  rewrite [e0]
  cbv
  rewrite [h3]
  cbv
  rewrite [e0]
  cbv
  rewrite [h5]
  cbv
  rewrite [e0]
  cbv
  rewrite [h3]
  cbv
  rewrite [h7]
  cbv
  rewrite [h6]
  cbv
  rewrite [hr]
  cbv
theorem lp_ah_end (e3 : out.length = m) (h1 : A.lt (.ofNat i) (.ofNat t) = false) : lpOf (envV A) 102 bd102 5 (stAh xs out t d i) = some (.code (.exit 0) (stAhe xs out t d i)) := by
  unfold stAh stAhe
  rw [lp_step (envV A) 102 (c0 := bd102) (lv := lvF102) rfl rfl]
  have hnle := hA.nleE; have hneq := hA.neqE
  generalize lpOf (envV A) 102 bd102 = LP
  generalize evl (envV A) = E at e3 h1 ⊢
  obtain ⟨aadd, asub, amul, arem, aquo, awr, ashr, aeq, alt, ale, aseq, aslt, acat, acut, asiz, aat, anle, aneq, afit⟩ := A
  simp only at hnle hneq
  subst hnle hneq
  try simp only at h1
  conv at e3 => lhs; cbv
  cbv
  rewrite [h1]
  cbv
theorem eq_ahead (e1 : out.length = m) (e2 : Nat.ble m m = true) (e3 : out.take m = out) (h0 : evl (envV A) (.call 63 [.sl 3 xs .imm, .s (.int .i64 (.ofNat t))] []) = some (.ret (.tup [.s (.int .i64 (.ofNat k)), .s (.int .i64 dd)]) []))
    (h1 : lpOf (envV A) 102 bd102 5 (stAh xs [] t 0 k) = some (.code (.exit 0) (stAhe xs out t d i))) :
    evl (envV A) (.call 102 [.sl 3 xs .imm, .s (.int .i64 (.ofNat t))] []) = some (.ret (.sl 3 out .full) []) := by
  unfold stAh stAhe at h1
  rw [evl_fn (envV A) 102 _ _ (fn := Try.f102) (c := bd102) (lv := lvF102) rfl rfl rfl rfl rfl rfl]
  have hnle := hA.nleE; have hneq := hA.neqE
  have klt := hA.lt; have kle := hA.le; have keq := hA.eq; have knle := hA.nle; have kneq := hA.neq
  rw [lp_split (lpOf (envV A) 102 bd102) 5]
  generalize lpOf (envV A) 102 bd102 5 = L5 at e1 e2 e3 h0 h1 ⊢
  generalize lpOf (envV A) 102 bd102 = LP
  generalize evl (envV A) = E at e1 e2 e3 h0 h1 ⊢
  obtain ⟨aadd, asub, amul, arem, aquo, awr, ashr, aeq, alt, ale, aseq, aslt, acat, acut, asiz, aat, anle, aneq, afit⟩ := A
  simp only at hnle hneq
  subst hnle hneq
  simp only at klt kle keq knle kneq
  try simp only at h0 h1
  conv at e1 => lhs; cbv
  conv at e2 => lhs; cbv
  conv at e3 => lhs; cbv
  cbv
  rewrite [h0]
  cbv
  rewrite [h1]
  cbv
  rewrite [e1]
  cbv
  rewrite [e2]
  cbv
  rewrite [e3]
  cbv
end
end Go.Va
