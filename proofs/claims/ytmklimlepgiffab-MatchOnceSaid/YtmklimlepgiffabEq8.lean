/- The functions that the statement reaches, by equations: no statement of its own. -/
import Derived.Test.YtmklimlepgiffabEq7
set_option linter.unusedVariables false
set_option linter.unusedSimpArgs false
set_option linter.unusedSectionVars false
namespace Go.Va
open Go.Proofs
set_option maxRecDepth 100000
set_option maxHeartbeats 4000000
theorem eq_vt_tells (A : Ar) (o : Int) : evl (envV A) (.call 80 [.s (.int .i64 o)] []) = some (.ret (.s (.bool (bif A.eq o 5 then true else A.eq o 6))) []) := by
  rw [evl_fn (envV A) 80 _ _ (fn := Try.f80) (c := bd80) (lv := lvF80) rfl rfl rfl rfl rfl rfl]
  generalize lpOf (envV A) 80 bd80 = LP
  generalize evl (envV A) = E
  obtain ⟨aadd, asub, amul, arem, aquo, awr, ashr, aeq, alt, ale, aseq, aslt, acat, acut, asiz, aat, anle, aneq, afit⟩ := A
  cbv
  cases c1 : aeq o 5
  · cbv
  · cbv
def stBg (xs S : List AV) (t i : Nat) : St := { n := 51, k := 0, fr := [(0, .sl 3 xs .imm), (1, .s (.int .i64 (.ofNat t))), (6, .sl 1 S .full), (7, .s (.int .i64 (.ofNat i)))], O := [] }
def stBge (xs S : List AV) (t i : Nat) : St := { n := 51, k := 0, fr := [(0, .sl 3 xs .imm), (1, .s (.int .i64 (.ofNat t))), (6, .sl 1 S .full), (7, .s (.int .i64 (.ofNat i))), (10, .s (.bool false))], O := [] }
section
variable (A : Ar) (hA : ArOk A) (xs S S2 : List AV) (n i t m k : Nat) (o : Int) (a b : ByteArray)
include hA
theorem lp_bg_o {r : Option Res} (e0 : lget xs i = some (.agg [.s (.int .i64 o), .s (.string a), .s (.string b)])) (e1 : xs.length = n) (e2 : Nat.ble (Nat.succ i) n = true) (e3 : S.length = m)
    (h1 : A.lt (.ofNat i) (.ofNat t) = true) (h2 : A.eq o 1 = false) (h3 : A.eq o 2 = false) (h6 : A.add .i64 (.ofNat i) 1 = .ofNat (Nat.succ i))
    (hr : lpOf (envV A) 63 bd63 3 (stBg xs S t (Nat.succ i)) = r) : lpOf (envV A) 63 bd63 3 (stBg xs S t i) = r := by
  unfold stBg at hr ⊢
  rw [lp_step (envV A) 63 (c0 := bd63) (lv := lvF63) rfl rfl]
  have hnle := hA.nleE; have hneq := hA.neqE
  have klt := hA.lt; have kle := hA.le; have keq := hA.eq; have knle := hA.nle; have kneq := hA.neq
  rw [lp_split (lpOf (envV A) 63 bd63) 3]
  generalize lpOf (envV A) 63 bd63 3 = L3 at e0 e1 e2 e3 h1 h2 h3 h6 hr ⊢
  generalize lpOf (envV A) 63 bd63 = LP
  generalize evl (envV A) = E at e0 e1 e2 e3 h1 h2 h3 h6 hr ⊢
  obtain ⟨aadd, asub, amul, arem, aquo, awr, ashr, aeq, alt, ale, aseq, aslt, acat, acut, asiz, aat, anle, aneq, afit⟩ := A
  simp only at hnle hneq
  subst hnle hneq
  simp only at klt kle keq knle kneq
  try simp only at h1 h2 h3 h6 hr
  conv at e0 => lhs; cbv
  conv at e1 => lhs; cbv
  conv at e2 => lhs; cbv
  conv at e3 => lhs; cbv
  cbv
  rewrite [h1]
  cbv
  rewrite [e0]
  cbv
  rewrite [h2]
  cbv
  rewrite [e0]
  cbv
  rewrite [h3]
  cbv
  rewrite [h6]
  cbv
  rewrite [hr]
  cbv
theorem lp_bg_c0 {r : Option Res} (e0 : lget xs i = some (.agg [.s (.int .i64 o), .s (.string a), .s (.string b)])) (e1 : xs.length = n) (e2 : Nat.ble (Nat.succ i) n = true)
    (h1 : A.lt (.ofNat i) (.ofNat t) = true) (h2 : A.eq o 1 = false) (h3 : A.eq o 2 = true) (h6 : A.add .i64 (.ofNat i) 1 = .ofNat (Nat.succ i))
    (hr : lpOf (envV A) 63 bd63 3 (stBg xs [] t (Nat.succ i)) = r) : lpOf (envV A) 63 bd63 3 (stBg xs [] t i) = r := by
  unfold stBg at hr ⊢
  rw [lp_step (envV A) 63 (c0 := bd63) (lv := lvF63) rfl rfl]
  have hnle := hA.nleE; have hneq := hA.neqE
  have klt := hA.lt; have kle := hA.le; have keq := hA.eq; have knle := hA.nle; have kneq := hA.neq
  rw [lp_split (lpOf (envV A) 63 bd63) 3]
  generalize lpOf (envV A) 63 bd63 3 = L3 at e0 e1 e2 h1 h2 h3 h6 hr ⊢
  generalize lpOf (envV A) 63 bd63 = LP
  generalize evl (envV A) = E at e0 e1 e2 h1 h2 h3 h6 hr ⊢
  obtain ⟨aadd, asub, amul, arem, aquo, awr, ashr, aeq, alt, ale, aseq, aslt, acat, acut, asiz, aat, anle, aneq, afit⟩ := A
  simp only at hnle hneq
  subst hnle hneq
  simp only at klt kle keq knle kneq
  try simp only at h1 h2 h3 h6 hr
  conv at e0 => lhs; cbv
  conv at e1 => lhs; cbv
  conv at e2 => lhs; cbv
  cbv
  rewrite [h1]
  cbv
  rewrite [e0]
  cbv
  rewrite [h2]
  cbv
  rewrite [e0]
  cbv
  rewrite [h3]
  cbv
  rewrite [klt (0) (Int.ofNat 0)]
  cbv
  rewrite [h6]
  cbv
  rewrite [hr]
  cbv
theorem lp_bg_1 {r : Option Res} (e0 : lget xs i = some (.agg [.s (.int .i64 o), .s (.string a), .s (.string b)])) (e1 : xs.length = n) (e2 : Nat.ble (Nat.succ i) n = true) (e3 : S.length = m)
    (e4 : S ++ [.s (.int .i64 (.ofNat (Nat.succ i)))] = S2) (e5 : Nat.beq m m = true)
    (h1 : A.lt (.ofNat i) (.ofNat t) = true) (h2 : A.eq o 1 = true) (h3 : A.eq o 2 = false) (h4 : A.fit (Nat.succ m) 8 = true) (h6 : A.add .i64 (.ofNat i) 1 = .ofNat (Nat.succ i))
    (hr : lpOf (envV A) 63 bd63 3 (stBg xs S2 t (Nat.succ i)) = r) : lpOf (envV A) 63 bd63 3 (stBg xs S t i) = r := by
  unfold stBg at hr ⊢
  rw [lp_step (envV A) 63 (c0 := bd63) (lv := lvF63) rfl rfl]
  have hnle := hA.nleE; have hneq := hA.neqE
  have klt := hA.lt; have kle := hA.le; have keq := hA.eq; have knle := hA.nle; have kneq := hA.neq
  rw [lp_split (lpOf (envV A) 63 bd63) 3]
  generalize lpOf (envV A) 63 bd63 3 = L3 at e0 e1 e2 e3 e4 e5 h1 h2 h3 h4 h6 hr ⊢
  generalize lpOf (envV A) 63 bd63 = LP
  generalize evl (envV A) = E at e0 e1 e2 e3 e4 e5 h1 h2 h3 h4 h6 hr ⊢
  obtain ⟨aadd, asub, amul, arem, aquo, awr, ashr, aeq, alt, ale, aseq, aslt, acat, acut, asiz, aat, anle, aneq, afit⟩ := A
  simp only at hnle hneq
  subst hnle hneq
  simp only at klt kle keq knle kneq
  try simp only at h1 h2 h3 h4 h6 hr
  conv at e0 => lhs; cbv
  conv at e1 => lhs; cbv
  conv at e2 => lhs; cbv
  conv at e3 => lhs; cbv
  conv at e4 => lhs; cbv
  conv at e5 => lhs; cbv
  cbv
  rewrite [h1]
  cbv
  rewrite [e0]
  cbv
  rewrite [h2]
  cbv
  rewrite [e3]
  cbv
  rewrite [e5]
  cbv
  rewrite [h4]
  cbv
  rewrite [e0]
  cbv
  rewrite [h3]
  cbv
  rewrite [h6]
  cbv
  rewrite [e4]
  cbv
  rewrite [hr]
  cbv
theorem lp_bg_2 {r : Option Res} (e0 : lget xs i = some (.agg [.s (.int .i64 o), .s (.string a), .s (.string b)])) (e1 : xs.length = n) (e2 : Nat.ble (Nat.succ i) n = true) (e3 : S.length = Nat.succ m)
    (e4 : lcut S 0 m = S2) (e5 : Nat.ble m (Nat.succ m) = true) (e6 : 0 + m = m)
    (h1 : A.lt (.ofNat i) (.ofNat t) = true) (h2 : A.eq o 1 = false) (h3 : A.eq o 2 = true) (h4 : A.sub .i64 (.ofNat (Nat.succ m)) 1 = .ofNat m) (h5 : A.lt 0 (.ofNat (Nat.succ m)) = true) (h6 : A.add .i64 (.ofNat i) 1 = .ofNat (Nat.succ i))
    (hr : lpOf (envV A) 63 bd63 3 (stBg xs S2 t (Nat.succ i)) = r) : lpOf (envV A) 63 bd63 3 (stBg xs S t i) = r := by
  unfold stBg at hr ⊢
  rw [lp_step (envV A) 63 (c0 := bd63) (lv := lvF63) rfl rfl]
  have hnle := hA.nleE; have hneq := hA.neqE
  have klt := hA.lt; have kle := hA.le; have keq := hA.eq; have knle := hA.nle; have kneq := hA.neq
  rw [lp_split (lpOf (envV A) 63 bd63) 3]
  generalize lpOf (envV A) 63 bd63 3 = L3 at e0 e1 e2 e3 e4 e5 e6 h1 h2 h3 h4 h5 h6 hr ⊢
  generalize lpOf (envV A) 63 bd63 = LP
  generalize evl (envV A) = E at e0 e1 e2 e3 e4 e5 e6 h1 h2 h3 h4 h5 h6 hr ⊢
  obtain ⟨aadd, asub, amul, arem, aquo, awr, ashr, aeq, alt, ale, aseq, aslt, acat, acut, asiz, aat, anle, aneq, afit⟩ := A
  simp only at hnle hneq
  subst hnle hneq
  simp only at klt kle keq knle kneq
  try simp only at h1 h2 h3 h4 h5 h6 hr
  conv at e0 => lhs; cbv
  conv at e1 => lhs; cbv
  conv at e2 => lhs; cbv
  conv at e3 => lhs; cbv
  conv at e4 => lhs; cbv
  conv at e5 => lhs; cbv
  conv at e6 => lhs; cbv
  cbv
  rewrite [h1]
  cbv
  rewrite [e0]
  cbv
  rewrite [h2]
  cbv
  rewrite [e0]
  cbv
  rewrite [h3]
  cbv
  rewrite [e3]
  cbv
  rewrite [h5]
  cbv
  rewrite [e3]
  cbv
  rewrite [h4]
  cbv
  rewrite [e5]
  cbv
  rewrite [e3]
  cbv
  rewrite [e4]
  cbv
  rewrite [e5]
  cbv
  rewrite [h6]
  cbv
  rewrite [hr]
  cbv
theorem lp_bg_end (e3 : S.length = m) (h1 : A.lt (.ofNat i) (.ofNat t) = false) : lpOf (envV A) 63 bd63 3 (stBg xs S t i) = some (.code (.exit 0) (stBge xs S t i)) := by
  unfold stBg stBge
  rw [lp_step (envV A) 63 (c0 := bd63) (lv := lvF63) rfl rfl]
  have hnle := hA.nleE; have hneq := hA.neqE
  generalize lpOf (envV A) 63 bd63 = LP
  generalize evl (envV A) = E at e3 h1 ⊢
  obtain ⟨aadd, asub, amul, arem, aquo, awr, ashr, aeq, alt, ale, aseq, aslt, acat, acut, asiz, aat, anle, aneq, afit⟩ := A
  simp only at hnle hneq
  subst hnle hneq
  try simp only at h1
  conv at e3 => lhs; cbv
  cbv
  rewrite [h1]
  cbv
theorem eq_begin0 (h1 : lpOf (envV A) 63 bd63 3 (stBg xs [] t 0) = some (.code (.exit 0) (stBge xs [] t i))) :
    evl (envV A) (.call 63 [.sl 3 xs .imm, .s (.int .i64 (.ofNat t))] []) = some (.ret (.tup [.s (.int .i64 0), .s (.int .i64 0)]) []) := by
  unfold stBg stBge at h1
  simp only [show Int.ofNat 0 = 0 from rfl] at h1
  rw [evl_fn (envV A) 63 _ _ (fn := Try.f63) (c := bd63) (lv := lvF63) rfl rfl rfl rfl rfl rfl]
  have hnle := hA.nleE; have hneq := hA.neqE
  have klt := hA.lt; have kle := hA.le; have keq := hA.eq; have knle := hA.nle; have kneq := hA.neq
  rw [lp_split (lpOf (envV A) 63 bd63) 3]
  generalize lpOf (envV A) 63 bd63 3 = L3 at h1 ⊢
  generalize lpOf (envV A) 63 bd63 = LP
  generalize evl (envV A) = E at h1 ⊢
  obtain ⟨aadd, asub, amul, arem, aquo, awr, ashr, aeq, alt, ale, aseq, aslt, acat, acut, asiz, aat, anle, aneq, afit⟩ := A
  simp only at hnle hneq
  subst hnle hneq
  simp only at klt kle keq knle kneq
  try simp only at h1
  cbv
  rewrite [h1]
  cbv
  rewrite [keq (Int.ofNat 0) (0)]
  cbv
theorem eq_begin1 (e1 : S.length = Nat.succ m) (e2 : lget S m = some (.s (.int .i64 (.ofNat k)))) (e3 : Nat.ble (Nat.succ m) (Nat.succ m) = true) (e4 : 0 + m = m) (h2 : A.eq (.ofNat (Nat.succ m)) 0 = false) (h4 : A.sub .i64 (.ofNat (Nat.succ m)) 1 = .ofNat m) (h1 : lpOf (envV A) 63 bd63 3 (stBg xs [] t 0) = some (.code (.exit 0) (stBge xs S t i))) :
    evl (envV A) (.call 63 [.sl 3 xs .imm, .s (.int .i64 (.ofNat t))] []) = some (.ret (.tup [.s (.int .i64 (.ofNat k)), .s (.int .i64 (.ofNat (Nat.succ m)))]) []) := by
  unfold stBg stBge at h1
  simp only [show Int.ofNat 0 = 0 from rfl] at h1
  rw [evl_fn (envV A) 63 _ _ (fn := Try.f63) (c := bd63) (lv := lvF63) rfl rfl rfl rfl rfl rfl]
  have hnle := hA.nleE; have hneq := hA.neqE
  have klt := hA.lt; have kle := hA.le; have keq := hA.eq; have knle := hA.nle; have kneq := hA.neq
  rw [lp_split (lpOf (envV A) 63 bd63) 3]
  generalize lpOf (envV A) 63 bd63 3 = L3 at e1 e2 e3 e4 h1 h2 h4 ⊢
  generalize lpOf (envV A) 63 bd63 = LP
  generalize evl (envV A) = E at e1 e2 e3 e4 h1 h2 h4 ⊢
  obtain ⟨aadd, asub, amul, arem, aquo, awr, ashr, aeq, alt, ale, aseq, aslt, acat, acut, asiz, aat, anle, aneq, afit⟩ := A
  simp only at hnle hneq
  subst hnle hneq
  simp only at klt kle keq knle kneq
  try simp only at h1 h2 h4
  conv at e1 => lhs; cbv
  conv at e2 => lhs; cbv
  conv at e3 => lhs; cbv
  conv at e4 => lhs; cbv
  cbv
  rewrite [h1]
  cbv
  rewrite [e1]
  cbv
  rewrite [h2]
  cbv
  rewrite [e1]
  cbv
  rewrite [h4]
  cbv
  rewrite [e3]
  cbv
  rewrite [e4]
  cbv
  rewrite [e2]
  cbv
  rewrite [e1]
  cbv
end
end Go.Va
namespace Go.Va
open Go.Proofs
set_option maxRecDepth 100000
set_option maxHeartbeats 4000000
def stAt (xs : List AV) (t : Nat) (c : Int) (z : Int) : St := { n := 54, k := 0, fr := [(0, .sl 3 xs .imm), (1, .s (.int .i64 (.ofNat t))), (5, .s (.int .i64 c)), (6, .s (.int .i64 z))], O := [] }
def stAte (xs : List AV) (t : Nat) (c : Int) (z : Int) : St := { n := 54, k := 0, fr := [(0, .sl 3 xs .imm), (1, .s (.int .i64 (.ofNat t))), (5, .s (.int .i64 c)), (6, .s (.int .i64 z)), (18, .s (.bool false))], O := [] }
def stAt9 : St := { n := 54, k := 0, fr := [(4, .s (.int .i64 9))], O := [] }
section
variable (A : Ar) (hA : ArOk A) (xs : List AV) (n k t : Nat) (c c2 z z2 : Int) (o oT : Int) (a b aT bT : ByteArray)
include hA
theorem lp_at_on {r : Option Res} (e0 : lget xs k = some (.agg [.s (.int .i64 o), .s (.string a), .s (.string b)])) (e1 : xs.length = n) (e2 : Nat.ble (Nat.succ k) n = true)
    (e3 : lget xs t = some (.agg [.s (.int .i64 oT), .s (.string aT), .s (.string bT)])) (e4 : Nat.ble (Nat.succ t) n = true)
    (h1 : A.le 0 (.ofNat k) = true) (h2 : evl (envV A) (.call 80 [.s (.int .i64 o)] []) = some (.ret (.s (.bool true)) [])) (h3 : A.seq a aT = false) (h4 : A.add .i64 c 1 = c2) (h5 : A.sub .i64 (.ofNat k) 1 = z2)
    (hr : lpOf (envV A) 101 bd101 3 (stAt xs t c2 z2) = r) : lpOf (envV A) 101 bd101 3 (stAt xs t c (.ofNat k)) = r := by
  unfold stAt at hr ⊢
  rw [lp_step (envV A) 101 (c0 := bd101) (lv := lvF101) rfl rfl]
  have hnle := hA.nleE; have hneq := hA.neqE
  have klt := hA.lt; have kle := hA.le; have keq := hA.eq; have knle := hA.nle; have kneq := hA.neq
  rw [lp_split (lpOf (envV A) 101 bd101) 3]
  generalize lpOf (envV A) 101 bd101 3 = L3 at e0 e1 e2 e3 e4 h1 h2 h3 h4 h5 hr ⊢
  generalize lpOf (envV A) 101 bd101 = LP
  generalize evl (envV A) = E at e0 e1 e2 e3 e4 h1 h2 h3 h4 h5 hr ⊢
  obtain ⟨aadd, asub, amul, arem, aquo, awr, ashr, aeq, alt, ale, aseq, aslt, acat, acut, asiz, aat, anle, aneq, afit⟩ := A
  simp only at hnle hneq
  subst hnle hneq
  simp only at klt kle keq knle kneq
  try simp only at h1 h2 h3 h4 h5 hr
  conv at e0 => lhs; cbv
  conv at e1 => lhs; cbv
  conv at e2 => lhs; cbv
  conv at e3 => lhs; cbv
  conv at e4 => lhs; cbv
  cbv
  rewrite [h1]
  cbv
  rewrite [e0]
  cbv
  rewrite [h2]
  cbv
  rewrite [e0]
  cbv
  rewrite [e3]
  cbv
  rewrite [h3]
  cbv
  rewrite [h4]
  cbv
  rewrite [h5]
  cbv
  rewrite [hr]
  cbv
theorem lp_at_9 (e0 : lget xs k = some (.agg [.s (.int .i64 o), .s (.string a), .s (.string b)])) (e1 : xs.length = n) (e2 : Nat.ble (Nat.succ k) n = true)
    (e3 : lget xs t = some (.agg [.s (.int .i64 oT), .s (.string aT), .s (.string bT)])) (e4 : Nat.ble (Nat.succ t) n = true)
    (h1 : A.le 0 (.ofNat k) = true) (h2 : evl (envV A) (.call 80 [.s (.int .i64 o)] []) = some (.ret (.s (.bool true)) [])) (h3 : A.seq a aT = true) :
    lpOf (envV A) 101 bd101 3 (stAt xs t c (.ofNat k)) = some (.code .ret stAt9) := by
  unfold stAt stAt9
  rw [lp_step (envV A) 101 (c0 := bd101) (lv := lvF101) rfl rfl]
  have hnle := hA.nleE; have hneq := hA.neqE
  have klt := hA.lt; have kle := hA.le; have keq := hA.eq; have knle := hA.nle; have kneq := hA.neq
  rw [lp_split (lpOf (envV A) 101 bd101) 3]
  generalize lpOf (envV A) 101 bd101 3 = L3 at e0 e1 e2 e3 e4 h1 h2 h3 ⊢
  generalize lpOf (envV A) 101 bd101 = LP
  generalize evl (envV A) = E at e0 e1 e2 e3 e4 h1 h2 h3 ⊢
  obtain ⟨aadd, asub, amul, arem, aquo, awr, ashr, aeq, alt, ale, aseq, aslt, acat, acut, asiz, aat, anle, aneq, afit⟩ := A
  simp only at hnle hneq
  subst hnle hneq
  simp only at klt kle keq knle kneq
  try simp only at h1 h2 h3
  conv at e0 => lhs; cbv
  conv at e1 => lhs; cbv
  conv at e2 => lhs; cbv
  conv at e3 => lhs; cbv
  conv at e4 => lhs; cbv
  cbv
  rewrite [h1]
  cbv
  rewrite [e0]
  cbv
  rewrite [h2]
  cbv
  rewrite [e0]
  cbv
  rewrite [e3]
  cbv
  rewrite [h3]
  cbv
theorem lp_at_end (e0 : lget xs k = some (.agg [.s (.int .i64 o), .s (.string a), .s (.string b)])) (e1 : xs.length = n) (e2 : Nat.ble (Nat.succ k) n = true)
    (h1 : A.le 0 (.ofNat k) = true) (h2 : evl (envV A) (.call 80 [.s (.int .i64 o)] []) = some (.ret (.s (.bool false)) [])) :
    lpOf (envV A) 101 bd101 3 (stAt xs t c (.ofNat k)) = some (.code (.exit 0) (stAte xs t c (.ofNat k))) := by
  unfold stAt stAte
  rw [lp_step (envV A) 101 (c0 := bd101) (lv := lvF101) rfl rfl]
  have hnle := hA.nleE; have hneq := hA.neqE
  have klt := hA.lt; have kle := hA.le; have keq := hA.eq; have knle := hA.nle; have kneq := hA.neq
  rw [lp_split (lpOf (envV A) 101 bd101) 3]
  generalize lpOf (envV A) 101 bd101 3 = L3 at e0 e1 e2 h1 h2 ⊢
  generalize lpOf (envV A) 101 bd101 = LP
  generalize evl (envV A) = E at e0 e1 e2 h1 h2 ⊢
  obtain ⟨aadd, asub, amul, arem, aquo, awr, ashr, aeq, alt, ale, aseq, aslt, acat, acut, asiz, aat, anle, aneq, afit⟩ := A
  simp only at hnle hneq
  subst hnle hneq
  simp only at klt kle keq knle kneq
  try simp only at h1 h2
  conv at e0 => lhs; cbv
  conv at e1 => lhs; cbv
  conv at e2 => lhs; cbv
  cbv
  rewrite [h1]
  cbv
  rewrite [e0]
  cbv
  rewrite [h2]
  cbv
theorem lp_at_end0 (h1 : A.le 0 (-1) = false) :
    lpOf (envV A) 101 bd101 3 (stAt xs t c (-1)) = some (.code (.exit 0) (stAte xs t c (-1))) := by
  unfold stAt stAte
  rw [lp_step (envV A) 101 (c0 := bd101) (lv := lvF101) rfl rfl]
  have hnle := hA.nleE; have hneq := hA.neqE
  have klt := hA.lt; have kle := hA.le; have keq := hA.eq; have knle := hA.nle; have kneq := hA.neq
  rw [lp_split (lpOf (envV A) 101 bd101) 3]
  generalize lpOf (envV A) 101 bd101 3 = L3 at h1 ⊢
  generalize lpOf (envV A) 101 bd101 = LP
  generalize evl (envV A) = E at h1 ⊢
  obtain ⟨aadd, asub, amul, arem, aquo, awr, ashr, aeq, alt, ale, aseq, aslt, acat, acut, asiz, aat, anle, aneq, afit⟩ := A
  simp only at hnle hneq
  subst hnle hneq
  simp only at klt kle keq knle kneq
  try simp only at h1
  cbv
  rewrite [h1]
  cbv
theorem eq_attr9 (h0 : A.sub .i64 (.ofNat t) 1 = z) (h1 : lpOf (envV A) 101 bd101 3 (stAt xs t 0 z) = some (.code .ret stAt9)) :
    evl (envV A) (.call 101 [.sl 3 xs .imm, .s (.int .i64 (.ofNat t))] []) = some (.ret (.s (.int .i64 9)) []) := by
  unfold stAt stAt9 at h1
  rw [evl_fn (envV A) 101 _ _ (fn := Try.f101) (c := bd101) (lv := lvF101) rfl rfl rfl rfl rfl rfl]
  have hnle := hA.nleE; have hneq := hA.neqE
  have klt := hA.lt; have kle := hA.le; have keq := hA.eq; have knle := hA.nle; have kneq := hA.neq
  rw [lp_split (lpOf (envV A) 101 bd101) 3]
  generalize lpOf (envV A) 101 bd101 3 = L3 at h0 h1 ⊢
  generalize lpOf (envV A) 101 bd101 = LP
  generalize evl (envV A) = E at h0 h1 ⊢
  obtain ⟨aadd, asub, amul, arem, aquo, awr, ashr, aeq, alt, ale, aseq, aslt, acat, acut, asiz, aat, anle, aneq, afit⟩ := A
  simp only at hnle hneq
  subst hnle hneq
  simp only at klt kle keq knle kneq
  try simp only at h0 h1
  cbv
  rewrite [h0]
  cbv
  rewrite [h1]
  cbv
theorem eq_attr9a (h0 : A.sub .i64 (.ofNat t) 1 = z) (h1 : lpOf (envV A) 101 bd101 3 (stAt xs t 0 z) = some (.code (.exit 0) (stAte xs t c (-1)))) (h2 : A.lt (-1) 0 = true) :
    evl (envV A) (.call 101 [.sl 3 xs .imm, .s (.int .i64 (.ofNat t))] []) = some (.ret (.s (.int .i64 9)) []) := by
  unfold stAt stAte at h1
  rw [evl_fn (envV A) 101 _ _ (fn := Try.f101) (c := bd101) (lv := lvF101) rfl rfl rfl rfl rfl rfl]
  have hnle := hA.nleE; have hneq := hA.neqE
  have klt := hA.lt; have kle := hA.le; have keq := hA.eq; have knle := hA.nle; have kneq := hA.neq
  rw [lp_split (lpOf (envV A) 101 bd101) 3]
  generalize lpOf (envV A) 101 bd101 3 = L3 at h0 h1 h2 ⊢
  generalize lpOf (envV A) 101 bd101 = LP
  generalize evl (envV A) = E at h0 h1 h2 ⊢
  obtain ⟨aadd, asub, amul, arem, aquo, awr, ashr, aeq, alt, ale, aseq, aslt, acat, acut, asiz, aat, anle, aneq, afit⟩ := A
  simp only at hnle hneq
  subst hnle hneq
  simp only at klt kle keq knle kneq
  try simp only at h0 h1 h2
  cbv
  rewrite [h0]
  cbv
  rewrite [h1]
  cbv
  rewrite [h2]
  cbv
theorem eq_attr (e0 : lget xs k = some (.agg [.s (.int .i64 o), .s (.string a), .s (.string b)])) (e1 : xs.length = n) (e2 : Nat.ble (Nat.succ k) n = true) (h0 : A.sub .i64 (.ofNat t) 1 = z) (h1 : lpOf (envV A) 101 bd101 3 (stAt xs t 0 z) = some (.code (.exit 0) (stAte xs t c (.ofNat k)))) (h2 : A.lt (.ofNat k) 0 = false) :
    evl (envV A) (.call 101 [.sl 3 xs .imm, .s (.int .i64 (.ofNat t))] []) = some (.ret (.s (.int .i64 (bif A.le 8 c then 9 else bif A.eq o 1 then 0 else bif A.eq o 3 then 0 else 9))) []) := by
  unfold stAt stAte at h1
  rw [evl_fn (envV A) 101 _ _ (fn := Try.f101) (c := bd101) (lv := lvF101) rfl rfl rfl rfl rfl rfl]
  have hnle := hA.nleE; have hneq := hA.neqE
  rw [lp_split (lpOf (envV A) 101 bd101) 3]
  generalize lpOf (envV A) 101 bd101 3 = L3 at e0 e1 e2 h0 h1 h2 ⊢
  generalize lpOf (envV A) 101 bd101 = LP
  generalize evl (envV A) = E at e0 e1 e2 h0 h1 h2 ⊢
  obtain ⟨aadd, asub, amul, arem, aquo, awr, ashr, aeq, alt, ale, aseq, aslt, acat, acut, asiz, aat, anle, aneq, afit⟩ := A
  simp only at hnle hneq
  subst hnle hneq
  try simp only at h0 h1 h2
  conv at e0 => lhs; cbv
  conv at e1 => lhs; cbv
  conv at e2 => lhs; cbv
  cbv
  rewrite [h0]
  cbv
  rewrite [h1]
  cbv
  rewrite [h2]
  cbv
  cases c1 : ale 8 c
  · cbv
    rewrite [e0]
    cbv
    cases c2 : aeq o 1
    · cbv
      rewrite [e0]
      cbv
      cases c3 : aeq o 3
      · cbv
      · cbv
    · cbv
  · cbv
end
def stAh (xs out : List AV) (t : Nat) (d : Int) (i : Nat) : St := { n := 56, k := 0, fr := [(0, .sl 3 xs .imm), (1, .s (.int .i64 (.ofNat t))), (7, .sl 3 out .full), (8, .s (.int .i64 d)), (9, .s (.int .i64 (.ofNat i)))], O := [] }
def stAhe (xs out : List AV) (t : Nat) (d : Int) (i : Nat) : St := { n := 56, k := 0, fr := [(0, .sl 3 xs .imm), (1, .s (.int .i64 (.ofNat t))), (7, .sl 3 out .full), (8, .s (.int .i64 d)), (9, .s (.int .i64 (.ofNat i))), (19, .s (.bool false))], O := [] }
section
variable (A : Ar) (hA : ArOk A) (xs out out2 : List AV) (n i t m k : Nat) (d d2 dd : Int) (o : Int) (a b : ByteArray)
include hA
/-- at depth 0, no Close: it is taken -/
theorem lp_ah_0 {r : Option Res} (e0 : lget xs i = some (.agg [.s (.int .i64 o), .s (.string a), .s (.string b)])) (e1 : xs.length = n) (e2 : Nat.ble (Nat.succ i) n = true) (e3 : out.length = m)
    (e4 : out ++ [.agg [.s (.int .i64 o), .s (.string a), .s (.string b)]] = out2) (e5 : Nat.beq m m = true)
    (h1 : A.lt (.ofNat i) (.ofNat t) = true) (h2 : A.eq d 0 = true) (h3 : A.eq o 2 = false) (h4 : A.fit (Nat.succ m) 40 = true) (h5 : A.eq o 1 = false) (h6 : A.add .i64 (.ofNat i) 1 = .ofNat (Nat.succ i))
    (hr : lpOf (envV A) 102 bd102 5 (stAh xs out2 t d (Nat.succ i)) = r) : lpOf (envV A) 102 bd102 5 (stAh xs out t d i) = r := by
  unfold stAh at hr ⊢
  rw [lp_step (envV A) 102 (c0 := bd102) (lv := lvF102) rfl rfl]
  have hnle := hA.nleE; have hneq := hA.neqE
  have klt := hA.lt; have kle := hA.le; have keq := hA.eq; have knle := hA.nle; have kneq := hA.neq
  rw [lp_split (lpOf (envV A) 102 bd102) 5]
  generalize lpOf (envV A) 102 bd102 5 = L5 at e0 e1 e2 e3 e4 e5 h1 h2 h3 h4 h5 h6 hr ⊢
  generalize lpOf (envV A) 102 bd102 = LP
  generalize evl (envV A) = E at e0 e1 e2 e3 e4 e5 h1 h2 h3 h4 h5 h6 hr ⊢
  obtain ⟨aadd, asub, amul, arem, aquo, awr, ashr, aeq, alt, ale, aseq, aslt, acat, acut, asiz, aat, anle, aneq, afit⟩ := A
  simp only at hnle hneq
  subst hnle hneq
  simp only at klt kle keq knle kneq
  try simp only at h1 h2 h3 h4 h5 h6 hr
  conv at e0 => lhs; cbv
  conv at e1 => lhs; cbv
  conv at e2 => lhs; cbv
  conv at e3 => lhs; cbv
  conv at e4 => lhs; cbv
  conv at e5 => lhs; cbv
  cbv
  rewrite [h1]
  cbv
  rewrite [h2]
  cbv
  rewrite [e0]
  cbv
  rewrite [h3]
  cbv
  rewrite [e0]
  cbv
  rewrite [e3]
  cbv
  rewrite [e4]
  cbv
  rewrite [e5]
  cbv
  rewrite [h4]
  cbv
  rewrite [e0]
  cbv
  rewrite [h5]
  cbv
  rewrite [e0]
  cbv
  rewrite [h3]
  cbv
  rewrite [h6]
  cbv
  rewrite [hr]
  cbv
theorem lp_ah_01 {r : Option Res} (e0 : lget xs i = some (.agg [.s (.int .i64 o), .s (.string a), .s (.string b)])) (e1 : xs.length = n) (e2 : Nat.ble (Nat.succ i) n = true) (e3 : out.length = m)
    (e4 : out ++ [.agg [.s (.int .i64 o), .s (.string a), .s (.string b)]] = out2) (e5 : Nat.beq m m = true)
    (h1 : A.lt (.ofNat i) (.ofNat t) = true) (h2 : A.eq d 0 = true) (h3 : A.eq o 2 = false) (h4 : A.fit (Nat.succ m) 40 = true) (h5 : A.eq o 1 = true) (h7 : A.add .i64 d 1 = d2) (h6 : A.add .i64 (.ofNat i) 1 = .ofNat (Nat.succ i))
    (hr : lpOf (envV A) 102 bd102 5 (stAh xs out2 t d2 (Nat.succ i)) = r) : lpOf (envV A) 102 bd102 5 (stAh xs out t d i) = r := by
  unfold stAh at hr ⊢
  rw [lp_step (envV A) 102 (c0 := bd102) (lv := lvF102) rfl rfl]
  have hnle := hA.nleE; have hneq := hA.neqE
  have klt := hA.lt; have kle := hA.le; have keq := hA.eq; have knle := hA.nle; have kneq := hA.neq
  rw [lp_split (lpOf (envV A) 102 bd102) 5]
  generalize lpOf (envV A) 102 bd102 5 = L5 at e0 e1 e2 e3 e4 e5 h1 h2 h3 h4 h5 h7 h6 hr ⊢
  generalize lpOf (envV A) 102 bd102 = LP
  generalize evl (envV A) = E at e0 e1 e2 e3 e4 e5 h1 h2 h3 h4 h5 h7 h6 hr ⊢
  obtain ⟨aadd, asub, amul, arem, aquo, awr, ashr, aeq, alt, ale, aseq, aslt, acat, acut, asiz, aat, anle, aneq, afit⟩ := A
  simp only at hnle hneq
  subst hnle hneq
  simp only at klt kle keq knle kneq
  try simp only at h1 h2 h3 h4 h5 h7 h6 hr
  conv at e0 => lhs; cbv
  conv at e1 => lhs; cbv
  conv at e2 => lhs; cbv
  conv at e3 => lhs; cbv
  conv at e4 => lhs; cbv
  conv at e5 => lhs; cbv
  cbv
  rewrite [h1]
  cbv
  rewrite [h2]
  cbv
  rewrite [e0]
  cbv
  rewrite [h3]
  cbv
  rewrite [e0]
  cbv
  rewrite [e3]
  cbv
  rewrite [e4]
  cbv
  rewrite [e5]
  cbv
  rewrite [h4]
  cbv
  rewrite [e0]
  cbv
  rewrite [h5]
  cbv
  rewrite [e0]
  cbv
  rewrite [h3]
  cbv
  rewrite [h7]
  cbv
  rewrite [h6]
  cbv
  rewrite [hr]
  cbv
theorem lp_ah_d {r : Option Res} (e0 : lget xs i = some (.agg [.s (.int .i64 o), .s (.string a), .s (.string b)])) (e1 : xs.length = n) (e2 : Nat.ble (Nat.succ i) n = true) (e3 : out.length = m)
    (h1 : A.lt (.ofNat i) (.ofNat t) = true) (h2 : A.eq d 0 = false) (h3 : A.eq o 2 = false) (h5 : A.eq o 1 = false) (h6 : A.add .i64 (.ofNat i) 1 = .ofNat (Nat.succ i))
    (hr : lpOf (envV A) 102 bd102 5 (stAh xs out t d (Nat.succ i)) = r) : lpOf (envV A) 102 bd102 5 (stAh xs out t d i) = r := by
  unfold stAh at hr ⊢
  rw [lp_step (envV A) 102 (c0 := bd102) (lv := lvF102) rfl rfl]
  have hnle := hA.nleE; have hneq := hA.neqE
  have klt := hA.lt; have kle := hA.le; have keq := hA.eq; have knle := hA.nle; have kneq := hA.neq
  rw [lp_split (lpOf (envV A) 102 bd102) 5]
  generalize lpOf (envV A) 102 bd102 5 = L5 at e0 e1 e2 e3 h1 h2 h3 h5 h6 hr ⊢
  generalize lpOf (envV A) 102 bd102 = LP
  generalize evl (envV A) = E at e0 e1 e2 e3 h1 h2 h3 h5 h6 hr ⊢
  obtain ⟨aadd, asub, amul, arem, aquo, awr, ashr, aeq, alt, ale, aseq, aslt, acat, acut, asiz, aat, anle, aneq, afit⟩ := A
  simp only at hnle hneq
  subst hnle hneq
  simp only at klt kle keq knle kneq
  try simp only at h1 h2 h3 h5 h6 hr
  conv at e0 => lhs; cbv
  conv at e1 => lhs; cbv
  conv at e2 => lhs; cbv
  conv at e3 => lhs; cbv
  cbv
  rewrite [h1]
  cbv
  rewrite [h2]
  cbv
  rewrite [e0]
  cbv
  rewrite [h5]
  cbv
  rewrite [e0]
  cbv
  rewrite [h3]
  cbv
  rewrite [h6]
  cbv
  rewrite [hr]
  cbv
theorem lp_ah_d1 {r : Option Res} (e0 : lget xs i = some (.agg [.s (.int .i64 o), .s (.string a), .s (.string b)])) (e1 : xs.length = n) (e2 : Nat.ble (Nat.succ i) n = true) (e3 : out.length = m)
    (h1 : A.lt (.ofNat i) (.ofNat t) = true) (h2 : A.eq d 0 = false) (h3 : A.eq o 2 = false) (h5 : A.eq o 1 = true) (h7 : A.add .i64 d 1 = d2) (h6 : A.add .i64 (.ofNat i) 1 = .ofNat (Nat.succ i))
    (hr : lpOf (envV A) 102 bd102 5 (stAh xs out t d2 (Nat.succ i)) = r) : lpOf (envV A) 102 bd102 5 (stAh xs out t d i) = r := by
  unfold stAh at hr ⊢
  rw [lp_step (envV A) 102 (c0 := bd102) (lv := lvF102) rfl rfl]
  have hnle := hA.nleE; have hneq := hA.neqE
  have klt := hA.lt; have kle := hA.le; have keq := hA.eq; have knle := hA.nle; have kneq := hA.neq
  rw [lp_split (lpOf (envV A) 102 bd102) 5]
  generalize lpOf (envV A) 102 bd102 5 = L5 at e0 e1 e2 e3 h1 h2 h3 h5 h7 h6 hr ⊢
  generalize lpOf (envV A) 102 bd102 = LP
  generalize evl (envV A) = E at e0 e1 e2 e3 h1 h2 h3 h5 h7 h6 hr ⊢
  obtain ⟨aadd, asub, amul, arem, aquo, awr, ashr, aeq, alt, ale, aseq, aslt, acat, acut, asiz, aat, anle, aneq, afit⟩ := A
  simp only at hnle hneq
  subst hnle hneq
  simp only at klt kle keq knle kneq
  try simp only at h1 h2 h3 h5 h7 h6 hr
  conv at e0 => lhs; cbv
  conv at e1 => lhs; cbv
  conv at e2 => lhs; cbv
  conv at e3 => lhs; cbv
  cbv
  rewrite [h1]
  cbv
  rewrite [h2]
  cbv
  rewrite [e0]
  cbv
  rewrite [h5]
  cbv
  rewrite [e0]
  cbv
  rewrite [h3]
  cbv
  rewrite [h7]
  cbv
  rewrite [h6]
  cbv
  rewrite [hr]
  cbv
theorem lp_ah_d2 {r : Option Res} (q : Bool) (e0 : lget xs i = some (.agg [.s (.int .i64 o), .s (.string a), .s (.string b)])) (e1 : xs.length = n) (e2 : Nat.ble (Nat.succ i) n = true) (e3 : out.length = m)
    (h1 : A.lt (.ofNat i) (.ofNat t) = true) (h2 : A.eq d 0 = false) (h3 : A.eq o 2 = true) (h5 : A.eq o 1 = false) (h7 : A.sub .i64 d 1 = d2) (h6 : A.add .i64 (.ofNat i) 1 = .ofNat (Nat.succ i))
    (hr : lpOf (envV A) 102 bd102 5 (stAh xs out t d2 (Nat.succ i)) = r) : lpOf (envV A) 102 bd102 5 (stAh xs out t d i) = r := by
  unfold stAh at hr ⊢
  rw [lp_step (envV A) 102 (c0 := bd102) (lv := lvF102) rfl rfl]
  have hnle := hA.nleE; have hneq := hA.neqE
  have klt := hA.lt; have kle := hA.le; have keq := hA.eq; have knle := hA.nle; have kneq := hA.neq
  rw [lp_split (lpOf (envV A) 102 bd102) 5]
  generalize lpOf (envV A) 102 bd102 5 = L5 at e0 e1 e2 e3 h1 h2 h3 h5 h7 h6 hr ⊢
  generalize lpOf (envV A) 102 bd102 = LP
  generalize evl (envV A) = E at e0 e1 e2 e3 h1 h2 h3 h5 h7 h6 hr ⊢
  obtain ⟨aadd, asub, amul, arem, aquo, awr, ashr, aeq, alt, ale, aseq, aslt, acat, acut, asiz, aat, anle, aneq, afit⟩ := A
  simp only at hnle hneq
  subst hnle hneq
  simp only at klt kle keq knle kneq
  try simp only at h1 h2 h3 h5 h7 h6 hr
  conv at e0 => lhs; cbv
  conv at e1 => lhs; cbv
  conv at e2 => lhs; cbv
  conv at e3 => lhs; cbv
  cbv
  rewrite [h1]
  cbv
  rewrite [h2]
  cbv
  rewrite [e0]
  cbv
  rewrite [h5]
  cbv
  rewrite [e0]
  cbv
  rewrite [h3]
  cbv
  rewrite [h7]
  cbv
  rewrite [h6]
  cbv
  rewrite [hr]
  cbv
theorem lp_ah_02 {r : Option Res} (e0 : lget xs i = some (.agg [.s (.int .i64 o), .s (.string a), .s (.string b)])) (e1 : xs.length = n) (e2 : Nat.ble (Nat.succ i) n = true) (e3 : out.length = m)
    (h1 : A.lt (.ofNat i) (.ofNat t) = true) (h2 : A.eq d 0 = true) (h3 : A.eq o 2 = true) (h5 : A.eq o 1 = false) (h7 : A.sub .i64 d 1 = d2) (h6 : A.add .i64 (.ofNat i) 1 = .ofNat (Nat.succ i))
    (hr : lpOf (envV A) 102 bd102 5 (stAh xs out t d2 (Nat.succ i)) = r) : lpOf (envV A) 102 bd102 5 (stAh xs out t d i) = r := by
  unfold stAh at hr ⊢
  rw [lp_step (envV A) 102 (c0 := bd102) (lv := lvF102) rfl rfl]
  have hnle := hA.nleE; have hneq := hA.neqE
  have klt := hA.lt; have kle := hA.le; have keq := hA.eq; have knle := hA.nle; have kneq := hA.neq
  rw [lp_split (lpOf (envV A) 102 bd102) 5]
  generalize lpOf (envV A) 102 bd102 5 = L5 at e0 e1 e2 e3 h1 h2 h3 h5 h7 h6 hr ⊢
  generalize lpOf (envV A) 102 bd102 = LP
  generalize evl (envV A) = E at e0 e1 e2 e3 h1 h2 h3 h5 h7 h6 hr ⊢
  obtain ⟨aadd, asub, amul, arem, aquo, awr, ashr, aeq, alt, ale, aseq, aslt, acat, acut, asiz, aat, anle, aneq, afit⟩ := A
  simp only at hnle hneq
  subst hnle hneq
  simp only at klt kle keq knle kneq
  try simp only at h1 h2 h3 h5 h7 h6 hr
  conv at e0 => lhs; cbv
  conv at e1 => lhs; cbv
  conv at e2 => lhs; cbv
  conv at e3 => lhs; cbv
  cbv
  rewrite [h1]
  cbv
  rewrite [h2]
  cbv
  rewrite [e0]
  cbv
  rewrite [h3]
  cbv
  rewrite [e0]
  cbv
  rewrite [h5]
  cbv
  rewrite [e0]
  cbv
  rewrite [h3]
  cbv
  rewrite [h7]
  cbv
  rewrite [h6]
  cbv
  rewrite [hr]
  cbv
theorem lp_ah_end (e3 : out.length = m) (h1 : A.lt (.ofNat i) (.ofNat t) = false) : lpOf (envV A) 102 bd102 5 (stAh xs out t d i) = some (.code (.exit 0) (stAhe xs out t d i)) := by
  unfold stAh stAhe
  rw [lp_step (envV A) 102 (c0 := bd102) (lv := lvF102) rfl rfl]
  have hnle := hA.nleE; have hneq := hA.neqE
  generalize lpOf (envV A) 102 bd102 = LP
  generalize evl (envV A) = E at e3 h1 ⊢
  obtain ⟨aadd, asub, amul, arem, aquo, awr, ashr, aeq, alt, ale, aseq, aslt, acat, acut, asiz, aat, anle, aneq, afit⟩ := A
  simp only at hnle hneq
  subst hnle hneq
  try simp only at h1
  conv at e3 => lhs; cbv
  cbv
  rewrite [h1]
  cbv
theorem eq_ahead (e1 : out.length = m) (e2 : Nat.ble m m = true) (e3 : out.take m = out) (h0 : evl (envV A) (.call 63 [.sl 3 xs .imm, .s (.int .i64 (.ofNat t))] []) = some (.ret (.tup [.s (.int .i64 (.ofNat k)), .s (.int .i64 dd)]) []))
    (h1 : lpOf (envV A) 102 bd102 5 (stAh xs [] t 0 k) = some (.code (.exit 0) (stAhe xs out t d i))) :
    evl (envV A) (.call 102 [.sl 3 xs .imm, .s (.int .i64 (.ofNat t))] []) = some (.ret (.sl 3 out .full) []) := by
  unfold stAh stAhe at h1
  rw [evl_fn (envV A) 102 _ _ (fn := Try.f102) (c := bd102) (lv := lvF102) rfl rfl rfl rfl rfl rfl]
  have hnle := hA.nleE; have hneq := hA.neqE
  have klt := hA.lt; have kle := hA.le; have keq := hA.eq; have knle := hA.nle; have kneq := hA.neq
  rw [lp_split (lpOf (envV A) 102 bd102) 5]
  generalize lpOf (envV A) 102 bd102 5 = L5 at e1 e2 e3 h0 h1 ⊢
  generalize lpOf (envV A) 102 bd102 = LP
  generalize evl (envV A) = E at e1 e2 e3 h0 h1 ⊢
  obtain ⟨aadd, asub, amul, arem, aquo, awr, ashr, aeq, alt, ale, aseq, aslt, acat, acut, asiz, aat, anle, aneq, afit⟩ := A
  simp only at hnle hneq
  subst hnle hneq
  simp only at klt kle keq knle kneq
  try simp only at h0 h1
  conv at e1 => lhs; cbv
  conv at e2 => lhs; cbv
  conv at e3 => lhs; cbv
  cbv
  rewrite [h0]
  cbv
  rewrite [h1]
  cbv
  rewrite [e1]
  cbv
  rewrite [e2]
  cbv
  rewrite [e3]
  cbv
end
end Go.Va
namespace Go.Va
open Go.Proofs
set_option maxRecDepth 100000
set_option maxHeartbeats 4000000
def stWr (bs : List AV) (oT : Int) (aT bT : ByteArray) (dd : Int) (key : Bool) (i : Nat) : St := { n := 93, k := 0, fr := [(5, .ptr 0 0), (8, .s (.int .i64 dd)), (9, .sl 3 bs .full), (10, .s (.bool key)), (11, .s (.int .i64 (.ofNat i)))], O := [[.s (.int .i64 oT), .s (.string aT), .s (.string bT)]] }
def stWre (bs : List AV) (oT : Int) (aT bT : ByteArray) (dd : Int) (key : Bool) (i : Nat) : St := { n := 93, k := 0, fr := [(5, .ptr 0 0), (8, .s (.int .i64 dd)), (9, .sl 3 bs .full), (10, .s (.bool key)), (11, .s (.int .i64 (.ofNat i))), (44, .s (.bool false))], O := [[.s (.int .i64 oT), .s (.string aT), .s (.string bT)]] }
def stWr11 : St := { n := 93, k := 0, fr := [(4, .s (.int .i64 11))], O := [] }
section
variable (A : Ar) (hA : ArOk A) (bs xs : List AV) (n i t m : Nat) (dd ff e : Int) (o oT : Int) (a b aT bT : ByteArray) (key q p : Bool)
include hA
theorem lp_wr_11 (e0 : lget bs i = some (.agg [.s (.int .i64 o), .s (.string a), .s (.string b)])) (e1 : bs.length = n) (e2 : Nat.ble (Nat.succ i) n = true) (e3 : 0 + i = i)
    (h1 : A.lt (.ofNat i) (.ofNat n) = true) (h2 : A.eq o 7 = true) :
    lpOf (envV A) 62 bd62 15 (stWr bs oT aT bT dd key i) = some (.code .ret stWr11) := by
  unfold stWr stWr11
  rw [lp_step (envV A) 62 (c0 := bd62) (lv := lvF62) rfl rfl]
  have hnle := hA.nleE; have hneq := hA.neqE
  have klt := hA.lt; have kle := hA.le; have keq := hA.eq; have knle := hA.nle; have kneq := hA.neq
  generalize lpOf (envV A) 62 bd62 = LP
  generalize evl (envV A) = E at e0 e1 e2 e3 h1 h2 ⊢
  obtain ⟨aadd, asub, amul, arem, aquo, awr, ashr, aeq, alt, ale, aseq, aslt, acat, acut, asiz, aat, anle, aneq, afit⟩ := A
  simp only at hnle hneq
  subst hnle hneq
  simp only at klt kle keq knle kneq
  try simp only at h1 h2
  conv at e0 => lhs; cbv
  conv at e1 => lhs; cbv
  conv at e2 => lhs; cbv
  conv at e3 => lhs; cbv
  cbv
  rewrite [e1]
  cbv
  rewrite [h1]
  cbv
  rewrite [e1]
  cbv
  rewrite [e2]
  cbv
  rewrite [e3]
  cbv
  rewrite [e0]
  cbv
  rewrite [h2]
  cbv
theorem lp_wr_e {r : Option Res} (e0 : lget bs i = some (.agg [.s (.int .i64 o), .s (.string a), .s (.string b)])) (e1 : bs.length = n) (e2 : Nat.ble (Nat.succ i) n = true) (e3 : 0 + i = i)
    (h1 : A.lt (.ofNat i) (.ofNat n) = true) (h2 : A.eq o 7 = false) (h3 : (bif A.eq o 1 then true else A.eq o 3) = true) (h4 : A.seq b bT = q) (h6 : A.add .i64 (.ofNat i) 1 = .ofNat (Nat.succ i))
    (hr : lpOf (envV A) 62 bd62 15 (stWr bs oT aT bT dd (bif key then true else q) (Nat.succ i)) = r) :
    lpOf (envV A) 62 bd62 15 (stWr bs oT aT bT dd key i) = r := by
  unfold stWr at hr ⊢
  cases key <;> simp only [cond_true, cond_false] at hr <;> cases q1 : A.eq o 1 <;> simp only [q1, cond_true, cond_false] at h3
  ·
    rw [lp_step (envV A) 62 (c0 := bd62) (lv := lvF62) rfl rfl]
    have hnle := hA.nleE; have hneq := hA.neqE
    have klt := hA.lt; have kle := hA.le; have keq := hA.eq; have knle := hA.nle; have kneq := hA.neq
    rw [lp_split (lpOf (envV A) 62 bd62) 15]
    generalize lpOf (envV A) 62 bd62 15 = L15 at e0 e1 e2 e3 h1 h2 h3 h4 h6 q1 hr ⊢
    generalize lpOf (envV A) 62 bd62 = LP
    generalize evl (envV A) = E at e0 e1 e2 e3 h1 h2 h3 h4 h6 q1 hr ⊢
    obtain ⟨aadd, asub, amul, arem, aquo, awr, ashr, aeq, alt, ale, aseq, aslt, acat, acut, asiz, aat, anle, aneq, afit⟩ := A
    simp only at hnle hneq
    subst hnle hneq
    simp only at klt kle keq knle kneq
    try simp only at h1 h2 h3 h4 h6 q1 hr
    conv at e0 => lhs; cbv
    conv at e1 => lhs; cbv
    conv at e2 => lhs; cbv
    conv at e3 => lhs; cbv
    cbv
    rewrite [e1]
    cbv
    rewrite [h1]
    cbv
    rewrite [e1]
    cbv
    rewrite [e2]
    cbv
    rewrite [e3]
    cbv
    rewrite [e0]
    cbv
    rewrite [h2]
    cbv
    rewrite [q1]
    cbv
    rewrite [h3]
    cbv
    rewrite [h4]
    cbv
    rewrite [h6]
    cbv
    rewrite [hr]
    cbv
  ·
    rw [lp_step (envV A) 62 (c0 := bd62) (lv := lvF62) rfl rfl]
    have hnle := hA.nleE; have hneq := hA.neqE
    have klt := hA.lt; have kle := hA.le; have keq := hA.eq; have knle := hA.nle; have kneq := hA.neq
    rw [lp_split (lpOf (envV A) 62 bd62) 15]
    generalize lpOf (envV A) 62 bd62 15 = L15 at e0 e1 e2 e3 h1 h2 h4 h6 q1 hr ⊢
    generalize lpOf (envV A) 62 bd62 = LP
    generalize evl (envV A) = E at e0 e1 e2 e3 h1 h2 h4 h6 q1 hr ⊢
    obtain ⟨aadd, asub, amul, arem, aquo, awr, ashr, aeq, alt, ale, aseq, aslt, acat, acut, asiz, aat, anle, aneq, afit⟩ := A
    simp only at hnle hneq
    subst hnle hneq
    simp only at klt kle keq knle kneq
    try simp only at h1 h2 h4 h6 q1 hr
    conv at e0 => lhs; cbv
    conv at e1 => lhs; cbv
    conv at e2 => lhs; cbv
    conv at e3 => lhs; cbv
    cbv
    rewrite [e1]
    cbv
    rewrite [h1]
    cbv
    rewrite [e1]
    cbv
    rewrite [e2]
    cbv
    rewrite [e3]
    cbv
    rewrite [e0]
    cbv
    rewrite [h2]
    cbv
    rewrite [q1]
    cbv
    rewrite [h4]
    cbv
    rewrite [h6]
    cbv
    rewrite [hr]
    cbv
  ·
    rw [lp_step (envV A) 62 (c0 := bd62) (lv := lvF62) rfl rfl]
    have hnle := hA.nleE; have hneq := hA.neqE
    have klt := hA.lt; have kle := hA.le; have keq := hA.eq; have knle := hA.nle; have kneq := hA.neq
    rw [lp_split (lpOf (envV A) 62 bd62) 15]
    generalize lpOf (envV A) 62 bd62 15 = L15 at e0 e1 e2 e3 h1 h2 h3 h4 h6 q1 hr ⊢
    generalize lpOf (envV A) 62 bd62 = LP
    generalize evl (envV A) = E at e0 e1 e2 e3 h1 h2 h3 h4 h6 q1 hr ⊢
    obtain ⟨aadd, asub, amul, arem, aquo, awr, ashr, aeq, alt, ale, aseq, aslt, acat, acut, asiz, aat, anle, aneq, afit⟩ := A
    simp only at hnle hneq
    subst hnle hneq
    simp only at klt kle keq knle kneq
    try simp only at h1 h2 h3 h4 h6 q1 hr
    conv at e0 => lhs; cbv
    conv at e1 => lhs; cbv
    conv at e2 => lhs; cbv
    conv at e3 => lhs; cbv
    cbv
    rewrite [e1]
    cbv
    rewrite [h1]
    cbv
    rewrite [e1]
    cbv
    rewrite [e2]
    cbv
    rewrite [e3]
    cbv
    rewrite [e0]
    cbv
    rewrite [h2]
    cbv
    rewrite [q1]
    cbv
    rewrite [h3]
    cbv
    rewrite [h6]
    cbv
    rewrite [hr]
    cbv
  ·
    rw [lp_step (envV A) 62 (c0 := bd62) (lv := lvF62) rfl rfl]
    have hnle := hA.nleE; have hneq := hA.neqE
    have klt := hA.lt; have kle := hA.le; have keq := hA.eq; have knle := hA.nle; have kneq := hA.neq
    rw [lp_split (lpOf (envV A) 62 bd62) 15]
    generalize lpOf (envV A) 62 bd62 15 = L15 at e0 e1 e2 e3 h1 h2 h4 h6 q1 hr ⊢
    generalize lpOf (envV A) 62 bd62 = LP
    generalize evl (envV A) = E at e0 e1 e2 e3 h1 h2 h4 h6 q1 hr ⊢
    obtain ⟨aadd, asub, amul, arem, aquo, awr, ashr, aeq, alt, ale, aseq, aslt, acat, acut, asiz, aat, anle, aneq, afit⟩ := A
    simp only at hnle hneq
    subst hnle hneq
    simp only at klt kle keq knle kneq
    try simp only at h1 h2 h4 h6 q1 hr
    conv at e0 => lhs; cbv
    conv at e1 => lhs; cbv
    conv at e2 => lhs; cbv
    conv at e3 => lhs; cbv
    cbv
    rewrite [e1]
    cbv
    rewrite [h1]
    cbv
    rewrite [e1]
    cbv
    rewrite [e2]
    cbv
    rewrite [e3]
    cbv
    rewrite [e0]
    cbv
    rewrite [h2]
    cbv
    rewrite [q1]
    cbv
    rewrite [h6]
    cbv
    rewrite [hr]
    cbv
theorem lp_wr_o {r : Option Res} (e0 : lget bs i = some (.agg [.s (.int .i64 o), .s (.string a), .s (.string b)])) (e1 : bs.length = n) (e2 : Nat.ble (Nat.succ i) n = true) (e3 : 0 + i = i)
    (h1 : A.lt (.ofNat i) (.ofNat n) = true) (h2 : A.eq o 7 = false) (h3 : A.eq o 1 = false) (h4 : A.eq o 3 = false) (h6 : A.add .i64 (.ofNat i) 1 = .ofNat (Nat.succ i))
    (hr : lpOf (envV A) 62 bd62 15 (stWr bs oT aT bT dd key (Nat.succ i)) = r) :
    lpOf (envV A) 62 bd62 15 (stWr bs oT aT bT dd key i) = r := by
  unfold stWr at hr ⊢
  rw [lp_step (envV A) 62 (c0 := bd62) (lv := lvF62) rfl rfl]
  have hnle := hA.nleE; have hneq := hA.neqE
  have klt := hA.lt; have kle := hA.le; have keq := hA.eq; have knle := hA.nle; have kneq := hA.neq
  rw [lp_split (lpOf (envV A) 62 bd62) 15]
  generalize lpOf (envV A) 62 bd62 15 = L15 at e0 e1 e2 e3 h1 h2 h3 h4 h6 hr ⊢
  generalize lpOf (envV A) 62 bd62 = LP
  generalize evl (envV A) = E at e0 e1 e2 e3 h1 h2 h3 h4 h6 hr ⊢
  obtain ⟨aadd, asub, amul, arem, aquo, awr, ashr, aeq, alt, ale, aseq, aslt, acat, acut, asiz, aat, anle, aneq, afit⟩ := A
  simp only at hnle hneq
  subst hnle hneq
  simp only at klt kle keq knle kneq
  try simp only at h1 h2 h3 h4 h6 hr
  conv at e0 => lhs; cbv
  conv at e1 => lhs; cbv
  conv at e2 => lhs; cbv
  conv at e3 => lhs; cbv
  cbv
  rewrite [e1]
  cbv
  rewrite [h1]
  cbv
  rewrite [e1]
  cbv
  rewrite [e2]
  cbv
  rewrite [e3]
  cbv
  rewrite [e0]
  cbv
  rewrite [h2]
  cbv
  rewrite [h3]
  cbv
  rewrite [h4]
  cbv
  rewrite [h6]
  cbv
  rewrite [hr]
  cbv
theorem lp_wr_end (e1 : bs.length = n) (h1 : A.lt (.ofNat i) (.ofNat n) = false) :
    lpOf (envV A) 62 bd62 15 (stWr bs oT aT bT dd key i) = some (.code (.exit 0) (stWre bs oT aT bT dd key i)) := by
  unfold stWr stWre
  rw [lp_step (envV A) 62 (c0 := bd62) (lv := lvF62) rfl rfl]
  have hnle := hA.nleE; have hneq := hA.neqE
  generalize lpOf (envV A) 62 bd62 = LP
  generalize evl (envV A) = E at e1 h1 ⊢
  obtain ⟨aadd, asub, amul, arem, aquo, awr, ashr, aeq, alt, ale, aseq, aslt, acat, acut, asiz, aat, anle, aneq, afit⟩ := A
  simp only at hnle hneq
  subst hnle hneq
  try simp only at h1
  conv at e1 => lhs; cbv
  cbv
  rewrite [e1]
  cbv
  rewrite [h1]
  cbv
theorem eq_wrong7 (e0 : lget xs t = some (.agg [.s (.int .i64 oT), .s (.string aT), .s (.string bT)])) (e1 : xs.length = n) (e2 : Nat.ble (Nat.succ t) n = true)
    (h1 : evl (envV A) (.call 95 [.agg [.s (.int .i64 oT), .s (.string aT), .s (.string bT)]] []) = some (.ret (.s (.bool false)) [])) :
    evl (envV A) (.call 62 [.sl 3 xs .imm, .s (.int .i64 (.ofNat t))] []) = some (.ret (.s (.int .i64 7)) []) := by
  rw [evl_fn (envV A) 62 _ _ (fn := Try.f62) (c := bd62) (lv := lvF62) rfl rfl rfl rfl rfl rfl]
  have hnle := hA.nleE; have hneq := hA.neqE
  have klt := hA.lt; have kle := hA.le; have keq := hA.eq; have knle := hA.nle; have kneq := hA.neq
  generalize lpOf (envV A) 62 bd62 = LP
  generalize evl (envV A) = E at e0 e1 e2 h1 ⊢
  obtain ⟨aadd, asub, amul, arem, aquo, awr, ashr, aeq, alt, ale, aseq, aslt, acat, acut, asiz, aat, anle, aneq, afit⟩ := A
  simp only at hnle hneq
  subst hnle hneq
  simp only at klt kle keq knle kneq
  try simp only at h1
  conv at e0 => lhs; cbv
  conv at e1 => lhs; cbv
  conv at e2 => lhs; cbv
  cbv
  rewrite [e0]
  cbv
  rewrite [h1]
  cbv
theorem eq_wrong_at (e0 : lget xs t = some (.agg [.s (.int .i64 oT), .s (.string aT), .s (.string bT)])) (e1 : xs.length = n) (e2 : Nat.ble (Nat.succ t) n = true)
    (h1 : evl (envV A) (.call 95 [.agg [.s (.int .i64 oT), .s (.string aT), .s (.string bT)]] []) = some (.ret (.s (.bool true)) []))
    (h2 : evl (envV A) (.call 80 [.s (.int .i64 oT)] []) = some (.ret (.s (.bool true)) []))
    (h3 : evl (envV A) (.call 101 [.sl 3 xs .imm, .s (.int .i64 (.ofNat t))] []) = some (.ret (.s (.int .i64 e)) [])) :
    evl (envV A) (.call 62 [.sl 3 xs .imm, .s (.int .i64 (.ofNat t))] []) = some (.ret (.s (.int .i64 e)) []) := by
  rw [evl_fn (envV A) 62 _ _ (fn := Try.f62) (c := bd62) (lv := lvF62) rfl rfl rfl rfl rfl rfl]
  have hnle := hA.nleE; have hneq := hA.neqE
  have klt := hA.lt; have kle := hA.le; have keq := hA.eq; have knle := hA.nle; have kneq := hA.neq
  generalize lpOf (envV A) 62 bd62 = LP
  generalize evl (envV A) = E at e0 e1 e2 h1 h2 h3 ⊢
  obtain ⟨aadd, asub, amul, arem, aquo, awr, ashr, aeq, alt, ale, aseq, aslt, acat, acut, asiz, aat, anle, aneq, afit⟩ := A
  simp only at hnle hneq
  subst hnle hneq
  simp only at klt kle keq knle kneq
  try simp only at h1 h2 h3
  conv at e0 => lhs; cbv
  conv at e1 => lhs; cbv
  conv at e2 => lhs; cbv
  cbv
  rewrite [e0]
  cbv
  rewrite [h1]
  cbv
  rewrite [h2]
  cbv
  rewrite [h3]
  cbv
theorem eq_wrong_c (e0 : lget xs t = some (.agg [.s (.int .i64 oT), .s (.string aT), .s (.string bT)])) (e1 : xs.length = n) (e2 : Nat.ble (Nat.succ t) n = true)
    (h1 : evl (envV A) (.call 95 [.agg [.s (.int .i64 oT), .s (.string aT), .s (.string bT)]] []) = some (.ret (.s (.bool true)) []))
    (h2 : evl (envV A) (.call 80 [.s (.int .i64 oT)] []) = some (.ret (.s (.bool false)) []))
    (h3 : evl (envV A) (.call 63 [.sl 3 xs .imm, .s (.int .i64 (.ofNat t))] []) = some (.ret (.tup [.s (.int .i64 ff), .s (.int .i64 dd)]) [])) (h4 : A.eq oT 2 = true) :
    evl (envV A) (.call 62 [.sl 3 xs .imm, .s (.int .i64 (.ofNat t))] []) = some (.ret (.s (.int .i64 (bif A.eq dd 0 then 8 else 0))) []) := by
  rw [evl_fn (envV A) 62 _ _ (fn := Try.f62) (c := bd62) (lv := lvF62) rfl rfl rfl rfl rfl rfl]
  have hnle := hA.nleE; have hneq := hA.neqE
  generalize lpOf (envV A) 62 bd62 = LP
  generalize evl (envV A) = E at e0 e1 e2 h1 h2 h3 h4 ⊢
  obtain ⟨aadd, asub, amul, arem, aquo, awr, ashr, aeq, alt, ale, aseq, aslt, acat, acut, asiz, aat, anle, aneq, afit⟩ := A
  simp only at hnle hneq
  subst hnle hneq
  try simp only at h1 h2 h3 h4
  conv at e0 => lhs; cbv
  conv at e1 => lhs; cbv
  conv at e2 => lhs; cbv
  cbv
  rewrite [e0]
  cbv
  rewrite [h1]
  cbv
  rewrite [h2]
  cbv
  rewrite [h3]
  cbv
  rewrite [h4]
  cbv
  cases c1 : aeq dd 0
  · cbv
  · cbv
theorem eq_wrong_11 (e0 : lget xs t = some (.agg [.s (.int .i64 oT), .s (.string aT), .s (.string bT)])) (e1 : xs.length = n) (e2 : Nat.ble (Nat.succ t) n = true)
    (h1 : evl (envV A) (.call 95 [.agg [.s (.int .i64 oT), .s (.string aT), .s (.string bT)]] []) = some (.ret (.s (.bool true)) []))
    (h2 : evl (envV A) (.call 80 [.s (.int .i64 oT)] []) = some (.ret (.s (.bool false)) []))
    (h3 : evl (envV A) (.call 63 [.sl 3 xs .imm, .s (.int .i64 (.ofNat t))] []) = some (.ret (.tup [.s (.int .i64 ff), .s (.int .i64 dd)]) [])) (h4 : A.eq oT 2 = false)
    (h5 : evl (envV A) (.call 102 [.sl 3 xs .imm, .s (.int .i64 (.ofNat t))] []) = some (.ret (.sl 3 bs .full) []))
    (h6 : lpOf (envV A) 62 bd62 15 (stWr bs oT aT bT dd false 0) = some (.code .ret stWr11)) :
    evl (envV A) (.call 62 [.sl 3 xs .imm, .s (.int .i64 (.ofNat t))] []) = some (.ret (.s (.int .i64 11)) []) := by
  unfold stWr stWr11 at h6
  simp only [show Int.ofNat 0 = 0 from rfl] at h6
  rw [evl_fn (envV A) 62 _ _ (fn := Try.f62) (c := bd62) (lv := lvF62) rfl rfl rfl rfl rfl rfl]
  have hnle := hA.nleE; have hneq := hA.neqE
  have klt := hA.lt; have kle := hA.le; have keq := hA.eq; have knle := hA.nle; have kneq := hA.neq
  rw [lp_split (lpOf (envV A) 62 bd62) 15]
  generalize lpOf (envV A) 62 bd62 15 = L15 at e0 e1 e2 h1 h2 h3 h4 h5 h6 ⊢
  generalize lpOf (envV A) 62 bd62 = LP
  generalize evl (envV A) = E at e0 e1 e2 h1 h2 h3 h4 h5 h6 ⊢
  obtain ⟨aadd, asub, amul, arem, aquo, awr, ashr, aeq, alt, ale, aseq, aslt, acat, acut, asiz, aat, anle, aneq, afit⟩ := A
  simp only at hnle hneq
  subst hnle hneq
  simp only at klt kle keq knle kneq
  try simp only at h1 h2 h3 h4 h5 h6
  conv at e0 => lhs; cbv
  conv at e1 => lhs; cbv
  conv at e2 => lhs; cbv
  cbv
  rewrite [e0]
  cbv
  rewrite [h1]
  cbv
  rewrite [h2]
  cbv
  rewrite [h3]
  cbv
  rewrite [h4]
  cbv
  rewrite [h5]
  cbv
  rewrite [h6]
  cbv
theorem eq_wrong (e0 : lget xs t = some (.agg [.s (.int .i64 oT), .s (.string aT), .s (.string bT)])) (e1 : xs.length = n) (e2 : Nat.ble (Nat.succ t) n = true)
    (h1 : evl (envV A) (.call 95 [.agg [.s (.int .i64 oT), .s (.string aT), .s (.string bT)]] []) = some (.ret (.s (.bool true)) []))
    (h2 : evl (envV A) (.call 80 [.s (.int .i64 oT)] []) = some (.ret (.s (.bool false)) []))
    (h3 : evl (envV A) (.call 63 [.sl 3 xs .imm, .s (.int .i64 (.ofNat t))] []) = some (.ret (.tup [.s (.int .i64 ff), .s (.int .i64 dd)]) [])) (h4 : A.eq oT 2 = false)
    (h5 : evl (envV A) (.call 102 [.sl 3 xs .imm, .s (.int .i64 (.ofNat t))] []) = some (.ret (.sl 3 bs .full) []))
    (h6 : lpOf (envV A) 62 bd62 15 (stWr bs oT aT bT dd false 0) = some (.code (.exit 0) (stWre bs oT aT bT dd key i))) :
    evl (envV A) (.call 62 [.sl 3 xs .imm, .s (.int .i64 (.ofNat t))] []) = some (.ret (.s (.int .i64 (bif (bif (bif A.eq oT 1 then true else A.eq oT 3) then (bif A.seq bT ⟨#[]⟩ then false else key) else false) then 10 else bif (bif A.eq oT 1 then A.le 8 dd else false) then 12 else 0))) []) := by
  unfold stWr stWre at h6
  simp only [show Int.ofNat 0 = 0 from rfl] at h6
  rw [evl_fn (envV A) 62 _ _ (fn := Try.f62) (c := bd62) (lv := lvF62) rfl rfl rfl rfl rfl rfl]
  have hnle := hA.nleE; have hneq := hA.neqE
  rw [lp_split (lpOf (envV A) 62 bd62) 15]
  generalize lpOf (envV A) 62 bd62 15 = L15 at e0 e1 e2 h1 h2 h3 h4 h5 h6 ⊢
  generalize lpOf (envV A) 62 bd62 = LP
  generalize evl (envV A) = E at e0 e1 e2 h1 h2 h3 h4 h5 h6 ⊢
  obtain ⟨aadd, asub, amul, arem, aquo, awr, ashr, aeq, alt, ale, aseq, aslt, acat, acut, asiz, aat, anle, aneq, afit⟩ := A
  simp only at hnle hneq
  subst hnle hneq
  try simp only at h1 h2 h3 h4 h5 h6
  conv at e0 => lhs; cbv
  conv at e1 => lhs; cbv
  conv at e2 => lhs; cbv
  cbv
  rewrite [e0]
  cbv
  rewrite [h1]
  cbv
  rewrite [h2]
  cbv
  rewrite [h3]
  cbv
  rewrite [h4]
  cbv
  rewrite [h5]
  cbv
  rewrite [h6]
  cbv
  cases c1 : aeq oT 1
  · cbv
    cases c2 : aeq oT 3
    · cbv
      rewrite [c1]
      cbv
    · cbv
      cases c3 : aseq bT { data := { toList := [] } }
      · cbv
        cases key
        · cbv
          rewrite [c1]
          cbv
        · cbv
      · cbv
        rewrite [c1]
        cbv
  · cbv
    cases c5 : aseq bT { data := { toList := [] } }
    · cbv
      cases key
      · cbv
        rewrite [c1]
        cbv
        cases c7 : ale 8 dd
        · cbv
        · cbv
      · cbv
    · cbv
      rewrite [c1]
      cbv
      cases c8 : ale 8 dd
      · cbv
      · cbv
end
def stCk (xs : List AV) (i : Nat) : St := { n := 31, k := 0, fr := [(0, .sl 3 xs .imm), (3, .s (.int .i64 (.ofNat i)))], O := [] }
def stCke (xs : List AV) (i : Nat) : St := { n := 31, k := 0, fr := [(0, .sl 3 xs .imm), (3, .s (.int .i64 (.ofNat i))), (13, .s (.bool false))], O := [] }
def stCkr (e : Int) : St := { n := 31, k := 0, fr := [(2, .s (.int .i64 e))], O := [] }
section
variable (A : Ar) (hA : ArOk A) (xs : List AV) (n i : Nat) (e ff dd : Int)
include hA
theorem lp_ck_on {r : Option Res} (e1 : xs.length = n) (h1 : A.lt (.ofNat i) (.ofNat n) = true) (h2 : evl (envV A) (.call 62 [.sl 3 xs .imm, .s (.int .i64 (.ofNat i))] []) = some (.ret (.s (.int .i64 0)) []))
    (h3 : A.eq 0 0 = true) (h6 : A.add .i64 (.ofNat i) 1 = .ofNat (Nat.succ i))
    (hr : lpOf (envV A) 24 bd24 4 (stCk xs (Nat.succ i)) = r) : lpOf (envV A) 24 bd24 4 (stCk xs i) = r := by
  unfold stCk at hr ⊢
  rw [lp_step (envV A) 24 (c0 := bd24) (lv := lvF24) rfl rfl]
  have hnle := hA.nleE; have hneq := hA.neqE
  rw [lp_split (lpOf (envV A) 24 bd24) 4]
  generalize lpOf (envV A) 24 bd24 4 = L4 at e1 h1 h2 h3 h6 hr ⊢
  generalize lpOf (envV A) 24 bd24 = LP
  generalize evl (envV A) = E at e1 h1 h2 h3 h6 hr ⊢
  obtain ⟨aadd, asub, amul, arem, aquo, awr, ashr, aeq, alt, ale, aseq, aslt, acat, acut, asiz, aat, anle, aneq, afit⟩ := A
  simp only at hnle hneq
  subst hnle hneq
  try simp only at h1 h2 h3 h6 hr
  conv at e1 => lhs; cbv
  cbv
  rewrite [e1]
  cbv
  rewrite [h1]
  cbv
  rewrite [h2]
  cbv
  rewrite [h3]
  cbv
  rewrite [h6]
  cbv
  rewrite [hr]
  cbv
theorem lp_ck_e (e1 : xs.length = n) (h1 : A.lt (.ofNat i) (.ofNat n) = true) (h2 : evl (envV A) (.call 62 [.sl 3 xs .imm, .s (.int .i64 (.ofNat i))] []) = some (.ret (.s (.int .i64 e)) []))
    (h3 : A.eq e 0 = false) : lpOf (envV A) 24 bd24 4 (stCk xs i) = some (.code .ret (stCkr e)) := by
  unfold stCk stCkr
  rw [lp_step (envV A) 24 (c0 := bd24) (lv := lvF24) rfl rfl]
  have hnle := hA.nleE; have hneq := hA.neqE
  generalize lpOf (envV A) 24 bd24 = LP
  generalize evl (envV A) = E at e1 h1 h2 h3 ⊢
  obtain ⟨aadd, asub, amul, arem, aquo, awr, ashr, aeq, alt, ale, aseq, aslt, acat, acut, asiz, aat, anle, aneq, afit⟩ := A
  simp only at hnle hneq
  subst hnle hneq
  try simp only at h1 h2 h3
  conv at e1 => lhs; cbv
  cbv
  rewrite [e1]
  cbv
  rewrite [h1]
  cbv
  rewrite [h2]
  cbv
  rewrite [h3]
  cbv
theorem lp_ck_end (e1 : xs.length = n) (h1 : A.lt (.ofNat i) (.ofNat n) = false) : lpOf (envV A) 24 bd24 4 (stCk xs i) = some (.code (.exit 0) (stCke xs i)) := by
  unfold stCk stCke
  rw [lp_step (envV A) 24 (c0 := bd24) (lv := lvF24) rfl rfl]
  have hnle := hA.nleE; have hneq := hA.neqE
  generalize lpOf (envV A) 24 bd24 = LP
  generalize evl (envV A) = E at e1 h1 ⊢
  obtain ⟨aadd, asub, amul, arem, aquo, awr, ashr, aeq, alt, ale, aseq, aslt, acat, acut, asiz, aat, anle, aneq, afit⟩ := A
  simp only at hnle hneq
  subst hnle hneq
  try simp only at h1
  conv at e1 => lhs; cbv
  cbv
  rewrite [e1]
  cbv
  rewrite [h1]
  cbv
theorem eq_Check13 (e1 : xs.length = n) (h1 : A.lt 120 (.ofNat n) = true) : evl (envV A) (.call 24 [.sl 3 xs .imm] []) = some (.ret (.s (.int .i64 13)) []) := by
  rw [evl_fn (envV A) 24 _ _ (fn := Try.f24) (c := bd24) (lv := lvF24) rfl rfl rfl rfl rfl rfl]
  have hnle := hA.nleE; have hneq := hA.neqE
  generalize lpOf (envV A) 24 bd24 = LP
  generalize evl (envV A) = E at e1 h1 ⊢
  obtain ⟨aadd, asub, amul, arem, aquo, awr, ashr, aeq, alt, ale, aseq, aslt, acat, acut, asiz, aat, anle, aneq, afit⟩ := A
  simp only at hnle hneq
  subst hnle hneq
  try simp only at h1
  conv at e1 => lhs; cbv
  cbv
  rewrite [e1]
  cbv
  rewrite [h1]
  cbv
theorem eq_Check_e (e1 : xs.length = n) (h1 : A.lt 120 (.ofNat n) = false) (h2 : lpOf (envV A) 24 bd24 4 (stCk xs 0) = some (.code .ret (stCkr e))) : evl (envV A) (.call 24 [.sl 3 xs .imm] []) = some (.ret (.s (.int .i64 e)) []) := by
  unfold stCk stCkr at h2
  simp only [show Int.ofNat 0 = 0 from rfl] at h2
  rw [evl_fn (envV A) 24 _ _ (fn := Try.f24) (c := bd24) (lv := lvF24) rfl rfl rfl rfl rfl rfl]
  have hnle := hA.nleE; have hneq := hA.neqE
  rw [lp_split (lpOf (envV A) 24 bd24) 4]
  generalize lpOf (envV A) 24 bd24 4 = L4 at e1 h1 h2 ⊢
  generalize lpOf (envV A) 24 bd24 = LP
  generalize evl (envV A) = E at e1 h1 h2 ⊢
  obtain ⟨aadd, asub, amul, arem, aquo, awr, ashr, aeq, alt, ale, aseq, aslt, acat, acut, asiz, aat, anle, aneq, afit⟩ := A
  simp only at hnle hneq
  subst hnle hneq
  try simp only at h1 h2
  conv at e1 => lhs; cbv
  cbv
  rewrite [e1]
  cbv
  rewrite [h1]
  cbv
  rewrite [h2]
  cbv
theorem eq_Check_end (e1 : xs.length = n) (h1 : A.lt 120 (.ofNat n) = false) (h2 : lpOf (envV A) 24 bd24 4 (stCk xs 0) = some (.code (.exit 0) (stCke xs n)))
    (h3 : evl (envV A) (.call 63 [.sl 3 xs .imm, .s (.int .i64 (.ofNat n))] []) = some (.ret (.tup [.s (.int .i64 ff), .s (.int .i64 dd)]) [])) : evl (envV A) (.call 24 [.sl 3 xs .imm] []) = some (.ret (.s (.int .i64 (bif A.lt 0 dd then 8 else 0))) []) := by
  unfold stCk stCke at h2
  simp only [show Int.ofNat 0 = 0 from rfl] at h2
  rw [evl_fn (envV A) 24 _ _ (fn := Try.f24) (c := bd24) (lv := lvF24) rfl rfl rfl rfl rfl rfl]
  have hnle := hA.nleE; have hneq := hA.neqE
  rw [lp_split (lpOf (envV A) 24 bd24) 4]
  generalize lpOf (envV A) 24 bd24 4 = L4 at e1 h1 h2 h3 ⊢
  generalize lpOf (envV A) 24 bd24 = LP
  generalize evl (envV A) = E at e1 h1 h2 h3 ⊢
  obtain ⟨aadd, asub, amul, arem, aquo, awr, ashr, aeq, alt, ale, aseq, aslt, acat, acut, asiz, aat, anle, aneq, afit⟩ := A
  simp only at hnle hneq
  subst hnle hneq
  try simp only at h1 h2 h3
  conv at e1 => lhs; cbv
  cbv
  rewrite [e1]
  cbv
  rewrite [h1]
  cbv
  rewrite [h2]
  cbv
  rewrite [e1]
  cbv
  rewrite [h3]
  cbv
  cases c1 : alt 0 dd
  · cbv
  · cbv
theorem eq_ValidTells0 (h1 : evl (envV A) (.call 22 [] []) = some (.ret (.s (.bool true)) [])) (h2 : evl (envV A) (.call 20 [.sl 3 xs .imm] []) = some (.ret (.s (.int .i64 0)) [])) (h3 : A.eq 0 0 = true) :
    evl (envV A) (.call 5 [.sl 3 xs .imm] []) = some (.ret (.s (.bool true)) []) := by
  rw [evl_fn (envV A) 5 _ _ (fn := Try.f5) (c := bd5) (lv := lvF5) rfl rfl rfl rfl rfl rfl]
  have hnle := hA.nleE; have hneq := hA.neqE
  generalize lpOf (envV A) 5 bd5 = LP
  generalize evl (envV A) = E at h1 h2 h3 ⊢
  obtain ⟨aadd, asub, amul, arem, aquo, awr, ashr, aeq, alt, ale, aseq, aslt, acat, acut, asiz, aat, anle, aneq, afit⟩ := A
  simp only at hnle hneq
  subst hnle hneq
  try simp only at h1 h2 h3
  cbv
  rewrite [h1]
  cbv
  rewrite [h2]
  cbv
  rewrite [h3]
  cbv
theorem eq_ValidTells (v : AV) (hv : v = .s .nilIface ∨ ∃ z, v = .s (.iface 39 (.int .i64 z))) (h1 : evl (envV A) (.call 22 [] []) = some (.ret (.s (.bool true)) [])) (h2 : evl (envV A) (.call 20 [.sl 3 xs .imm] []) = some (.ret (.s (.int .i64 1)) [])) (h3 : A.eq 1 0 = false)
    (h4 : evl (envV A) (.call 23 [.sl 3 xs .imm] []) = some (.ret v [])) (h5 : evl (envV A) (.call 18 [v] []) = some (.ret (.s (.int .i64 e)) [])) (h6 : evl (envV A) (.call 24 [.sl 3 xs .imm] []) = some (.ret (.s (.int .i64 e)) [])) (h7 : A.eq e e = true) :
    evl (envV A) (.call 5 [.sl 3 xs .imm] []) = some (.ret (.s (.bool true)) []) := by
  rcases hv with rfl | ⟨z, rfl⟩
  ·
    rw [evl_fn (envV A) 5 _ _ (fn := Try.f5) (c := bd5) (lv := lvF5) rfl rfl rfl rfl rfl rfl]
    have hnle := hA.nleE; have hneq := hA.neqE
    generalize lpOf (envV A) 5 bd5 = LP
    generalize evl (envV A) = E at h1 h2 h3 h4 h5 h6 h7 ⊢
    obtain ⟨aadd, asub, amul, arem, aquo, awr, ashr, aeq, alt, ale, aseq, aslt, acat, acut, asiz, aat, anle, aneq, afit⟩ := A
    simp only at hnle hneq
    subst hnle hneq
    try simp only at h1 h2 h3 h4 h5 h6 h7
    cbv
    rewrite [h1]
    cbv
    rewrite [h2]
    cbv
    rewrite [h3]
    cbv
    rewrite [h4]
    cbv
    rewrite [h5]
    cbv
    rewrite [h6]
    cbv
    rewrite [h7]
    cbv
  ·
    rw [evl_fn (envV A) 5 _ _ (fn := Try.f5) (c := bd5) (lv := lvF5) rfl rfl rfl rfl rfl rfl]
    have hnle := hA.nleE; have hneq := hA.neqE
    generalize lpOf (envV A) 5 bd5 = LP
    generalize evl (envV A) = E at h1 h2 h3 h4 h5 h6 h7 ⊢
    obtain ⟨aadd, asub, amul, arem, aquo, awr, ashr, aeq, alt, ale, aseq, aslt, acat, acut, asiz, aat, anle, aneq, afit⟩ := A
    simp only at hnle hneq
    subst hnle hneq
    try simp only at h1 h2 h3 h4 h5 h6 h7
    cbv
    rewrite [h1]
    cbv
    rewrite [h2]
    cbv
    rewrite [h3]
    cbv
    rewrite [h4]
    cbv
    rewrite [h5]
    cbv
    rewrite [h6]
    cbv
    rewrite [h7]
    cbv
end
theorem s_law00_Code (e : Nat) (he : e ≤ 13) : evl (envV realAr) (.call 18 [codeN 39 e] []) = some (.ret (.s (.int .i64 e)) []) := by
  match e, he with
  | 0, _ => exact evl_of (n := 60) (by kernel_rfl)
  | 1, _ => exact evl_of (n := 60) (by kernel_rfl)
  | 2, _ => exact evl_of (n := 60) (by kernel_rfl)
  | 3, _ => exact evl_of (n := 60) (by kernel_rfl)
  | 4, _ => exact evl_of (n := 60) (by kernel_rfl)
  | 5, _ => exact evl_of (n := 60) (by kernel_rfl)
  | 6, _ => exact evl_of (n := 60) (by kernel_rfl)
  | 7, _ => exact evl_of (n := 60) (by kernel_rfl)
  | 8, _ => exact evl_of (n := 60) (by kernel_rfl)
  | 9, _ => exact evl_of (n := 60) (by kernel_rfl)
  | 10, _ => exact evl_of (n := 60) (by kernel_rfl)
  | 11, _ => exact evl_of (n := 60) (by kernel_rfl)
  | 12, _ => exact evl_of (n := 60) (by kernel_rfl)
  | 13, _ => exact evl_of (n := 60) (by kernel_rfl)
theorem s_law13_up : evl (envV realAr) (.call 22 [] []) = some (.ret (.s (.bool true)) []) := evl_of (n := 60) (by kernel_rfl)
end Go.Va
namespace Go.Va
open Go.Proofs
set_option maxRecDepth 100000
/-! the plain law: the reference's answer, by what a checker holds -/
def bgX (x : InsT) (i : Nat) (S : List Nat) : List Nat := if x.1 = 1 then S ++ [i + 1] else if x.1 = 2 then S.dropLast else S
def bgF : List InsT → Nat → List Nat → List Nat
  | [], _, S => S
  | x :: l, i, S => bgF l (i + 1) (bgX x i S)
theorem bgF_snoc : ∀ (l : List InsT) (x : InsT) (i : Nat) (S : List Nat), bgF (l ++ [x]) i S = bgX x (i + l.length) (bgF l i S)
  | [], x, i, S => rfl
  | y :: l, x, i, S => by
    show bgF (l ++ [x]) (i + 1) (bgX y i S) = _
    rw [bgF_snoc l x]
    simp only [bgF, List.length_cons]
    congr 1
    omega
def scX (s : List InsT × Int) (x : InsT) : List InsT × Int := (if s.2 = 0 ∧ x.1 ≠ 2 then s.1 ++ [x] else s.1, if x.1 = 1 then s.2 + 1 else if x.1 = 2 then s.2 - 1 else s.2)
def scF (l : List InsT) : List InsT × Int := l.foldl scX ([], 0)
theorem scF_snoc (l : List InsT) (x : InsT) : scF (l ++ [x]) = scX (scF l) x := by simp [scF]
/-- a place, by the instructions that stand at it -/
structure PlOk (pl : List ByteArray × Bool) (y : List InsT) : Prop where
  keys : ∀ x, hasK x pl.1 = y.any fun i => elemB i.1 && (i.2.2.data.toList == x.data.toList)
  all : pl.2 = y.any fun i => decide (i.1 = 7)
theorem PlOk.nil : PlOk ([], false) [] := ⟨fun _ => rfl, rfl⟩
theorem PlOk.snoc {pl : List ByteArray × Bool} {y : List InsT} (h : PlOk pl y) (x : InsT) (he : elemB x.1 = false) (h7 : x.1 ≠ 7) : PlOk pl (y ++ [x]) where
  keys k := by rw [h.keys, List.any_append]; simp [he]
  all := by rw [h.all, List.any_append]; simp [h7]
theorem hasK_add (x b : ByteArray) (ks : List ByteArray) : hasK x (addK b ks) = (hasK x ks || (b.data.toList == x.data.toList)) := by
  unfold addK
  split
  · rename_i h
    cases q : (b.data.toList == x.data.toList) with
    | false => simp
    | true =>
      rw [Bool.or_true]
      unfold hasK at h ⊢
      rw [List.any_eq_true] at h ⊢
      obtain ⟨y, hy, hyb⟩ := h
      refine ⟨y, hy, ?_⟩
      simp only [beq_iff_eq] at hyb q ⊢
      exact hyb.trans q
  · simp [hasK, List.any_append]
theorem PlOk.elem {ks : List ByteArray} {y : List InsT} (h : PlOk (ks, false) y) (x : InsT) (he : elemB x.1 = true) : PlOk (addK x.2.2 ks, false) (y ++ [x]) where
  keys k := by rw [hasK_add, List.any_append, show hasK k ks = _ from h.keys k]; simp [he]
  all := by
    have : x.1 ≠ 7 := by
      intro q
      rw [q] at he
      exact absurd he (by decide)
    rw [List.any_append, ← h.all]
    simp [this]
theorem PlOk.other {ks : List ByteArray} {y : List InsT} (h : PlOk (ks, false) y) (x : InsT) (he : elemB x.1 = false) : PlOk (ks, decide (x.1 = 7)) (y ++ [x]) where
  keys k := by rw [List.any_append, show hasK k ks = _ from h.keys k]; simp [he]
  all := by rw [List.any_append, ← h.all]; simp
structure VInv (p : List InsT) (c : CkS) (Sr : List Nat) (L : List (List InsT)) : Prop where
  hS : bgF p 0 [] = Sr.reverse
  hL : L.length = Sr.length + 1
  hc : c.l.length = L.length
  hle : ∀ d : Nat, Sr.getD d 0 ≤ p.length
  hsc : ∀ (d : Nat) (y : List InsT), L[d]? = some y → scF (p.drop (Sr.getD d 0)) = (y, (d : Int))
  hk : ∀ (d : Nat) (y : List InsT) (pl : List ByteArray × Bool), L[d]? = some y → c.l[d]? = some pl → PlOk pl y
  hah : c.ahead = ((p.reverse.head?).map Prod.fst).getD 0
  hn : (elemB c.ahead || tellsB c.ahead) = true → ∃ run e rest, p.reverse = run ++ e :: rest ∧ (∀ y ∈ run, tellsB y.1 = true) ∧ elemB e.1 = true ∧ c.names = (run.map fun i => i.2.1).reverse
theorem vinv0 : VInv [] ck0 [] [[]] where
  hS := rfl
  hL := rfl
  hc := rfl
  hle d := by simp
  hsc d y h := by
    match d with
    | 0 => cases h; rfl
    | d + 1 => simp at h
  hk d y pl h k := by
    match d with
    | 0 => cases h; cases k; exact .nil
    | d + 1 => simp at h
  hah := rfl
  hn h := absurd h (by decide)
section
variable {p : List InsT} {c : CkS} {Sr : List Nat} {L : List (List InsT)}
theorem head_snoc (x : InsT) : (((p ++ [x]).reverse.head?).map Prod.fst).getD 0 = x.1 := by simp
theorem drop_snoc (h : VInv p c Sr L) (d : Nat) (x : InsT) : (p ++ [x]).drop (Sr.getD d 0) = p.drop (Sr.getD d 0) ++ [x] := by
  rw [List.drop_append_of_le_length (h.hle d)]
/-- what opens and ends nothing -/
theorem VInv.stay (h : VInv p c Sr L) {x : InsT} (h1 : x.1 ≠ 1) (h2 : x.1 ≠ 2) {y0 : List InsT} {Lt : List (List InsT)} (hL0 : L = y0 :: Lt) {c2 : CkS} {pl0 pl1 : List ByteArray × Bool} {lt : List (List ByteArray × Bool)}
    (hcl : c.l = pl0 :: lt) (hcl2 : c2.l = pl1 :: lt) (hpl : PlOk pl0 y0 → PlOk pl1 (y0 ++ [x])) (ha : c2.ahead = x.1)
    (hn : (elemB x.1 || tellsB x.1) = true → ∃ run e rest, (p ++ [x]).reverse = run ++ e :: rest ∧ (∀ y ∈ run, tellsB y.1 = true) ∧ elemB e.1 = true ∧ c2.names = (run.map fun i => i.2.1).reverse) :
    VInv (p ++ [x]) c2 Sr ((y0 ++ [x]) :: Lt) where
  hS := by rw [bgF_snoc, h.hS]; simp [bgX, h1, h2]
  hL := by rw [← h.hL, hL0]; rfl
  hc := by have := h.hc; rw [hcl, hL0] at this; rw [hcl2]; simpa using this
  hle d := by have := h.hle d; simp only [List.length_append, List.length_singleton]; omega
  hsc d y hy := by
    rw [drop_snoc h, scF_snoc]
    match d with
    | 0 =>
      cases hy
      rw [h.hsc 0 y0 (by rw [hL0]; rfl)]
      simp [scX, h1, h2]
    | d + 1 =>
      rw [h.hsc (d + 1) y (by rw [hL0]; exact hy)]
      simp [scX, h1, h2]
      omega
  hk d y pl hy hp := by
    match d with
    | 0 =>
      cases hy
      rw [hcl2] at hp
      cases hp
      exact hpl (h.hk 0 y0 pl0 (by rw [hL0]; rfl) (by rw [hcl]; rfl))
    | d + 1 =>
      rw [hcl2] at hp
      exact h.hk (d + 1) y pl (by rw [hL0]; exact hy) (by rw [hcl]; exact hp)
  hah := by rw [head_snoc, ha]
  hn := by rw [ha]; exact hn
/-- an element's end -/
theorem VInv.ends (h : VInv p c Sr L) {x : InsT} (h2 : x.1 = 2) {c2 : CkS} {pl0 pl1 : List ByteArray × Bool} {lt : List (List ByteArray × Bool)}
    (hcl : c.l = pl0 :: pl1 :: lt) (hcl2 : c2.l = pl1 :: lt) (ha : c2.ahead = x.1) : VInv (p ++ [x]) c2 Sr.tail L.tail := by
  have hlen := h.hc
  have hL := h.hL
  rw [hcl] at hlen
  match L, Sr, hlen, hL with
  | y0 :: y1 :: Lt, s0 :: St, hlen, hL =>
    refine ⟨?_, ?_, ?_, ?_, ?_, ?_, ?_, ?_⟩
    · rw [bgF_snoc, h.hS]; simp [bgX, h2]
    · simpa using hL
    · rw [hcl2]; simpa using hlen
    · intro d
      have := h.hle (d + 1)
      simp only [List.tail_cons, List.length_append, List.length_singleton]
      simp only [List.getD_cons_succ] at this
      omega
    · intro d y hy
      have e := h.hsc (d + 1) y hy
      have e2 := drop_snoc h (d + 1) x
      simp only [List.getD_cons_succ] at e e2
      rw [List.tail_cons, e2, scF_snoc, e]
      simp [scX, h2]
    · intro d y pl hy hp
      rw [hcl2] at hp
      exact h.hk (d + 1) y pl hy (by rw [hcl]; exact hp)
    · rw [head_snoc, ha]
    · rw [ha, h2]
      intro q
      exact absurd q (by decide)
/-- an element's begin -/
theorem VInv.opens (h : VInv p c Sr L) {x : InsT} (h1 : x.1 = 1) {y0 : List InsT} {Lt : List (List InsT)} (hL0 : L = y0 :: Lt) {c2 : CkS} {ks : List ByteArray} {lt : List (List ByteArray × Bool)}
    (hcl : c.l = (ks, false) :: lt) (hcl2 : c2.l = ([], false) :: (addK x.2.2 ks, false) :: lt) (ha : c2.ahead = x.1) (hnm : c2.names = []) :
    VInv (p ++ [x]) c2 ((p.length + 1) :: Sr) ([] :: (y0 ++ [x]) :: Lt) where
  hS := by rw [bgF_snoc, h.hS]; simp [bgX, h1]
  hL := by have := h.hL; rw [hL0] at this; simp at this ⊢; omega
  hc := by have := h.hc; rw [hcl, hL0] at this; rw [hcl2]; simp at this ⊢; omega
  hle d := by
    match d with
    | 0 => simp
    | d + 1 =>
      have := h.hle d
      simp only [List.getD_cons_succ, List.length_append, List.length_singleton]
      omega
  hsc d y hy := by
    match d with
    | 0 =>
      cases hy
      rw [show ((p.length + 1) :: Sr).getD 0 0 = p.length + 1 from rfl, List.drop_of_length_le (by simp)]
      rfl
    | 1 =>
      cases hy
      rw [List.getD_cons_succ, drop_snoc h, scF_snoc, h.hsc 0 y0 (by rw [hL0]; rfl)]
      simp [scX, h1]
    | d + 2 =>
      rw [List.getD_cons_succ, drop_snoc h, scF_snoc, h.hsc (d + 1) y (by rw [hL0]; exact hy)]
      have : ((d + 1 : Nat) : Int) ≠ 0 := by omega
      simp [scX, h1]
      omega
  hk d y pl hy hp := by
    rw [hcl2] at hp
    match d with
    | 0 => cases hy; cases hp; exact .nil
    | 1 =>
      cases hy
      cases hp
      exact (h.hk 0 y0 _ (by rw [hL0]; rfl) (by rw [hcl]; rfl)).elem x (by rw [h1]; rfl)
    | d + 2 => exact h.hk (d + 1) y pl (by rw [hL0]; exact hy) (by rw [hcl]; exact hp)
  hah := by rw [head_snoc, ha]
  hn _ := ⟨[], x, p.reverse, by simp, by simp, by rw [h1]; rfl, by rw [hnm]; rfl⟩
theorem VInv.two (h : VInv p c Sr L) : ∃ y0 Lt pl0 lt, L = y0 :: Lt ∧ c.l = pl0 :: lt ∧ PlOk pl0 y0 ∧ Lt.length = Sr.length ∧ lt.length = Sr.length := by
  have hlen := h.hc
  have hL := h.hL
  match hl : L, hL with
  | y0 :: Lt, hL =>
    match hl2 : c.l, hlen with
    | pl0 :: lt, hlen =>
      refine ⟨y0, Lt, pl0, lt, rfl, rfl, h.hk 0 y0 pl0 rfl (by rw [hl2]; rfl), by simpa using hL, ?_⟩
      simp at hlen hL
      omega
/-- a right instruction goes on -/
theorem VInv.step (h : VInv p c Sr L) (x : InsT) {c2 : CkS} (hx : ckOne c true x = (0, c2)) : ∃ Sr' L', VInv (p ++ [x]) { c2 with ahead := x.1 } Sr' L' := by
  obtain ⟨y0, Lt, pl0, lt, hL0, hcl, hp0, hl1, hl2⟩ := h.two
  simp only [ckOne, Bool.not_true, Bool.false_eq_true, if_false] at hx
  cases ht : tellsB x.1 with
  | true =>
    have hne : x.1 ≠ 1 ∧ x.1 ≠ 2 ∧ x.1 ≠ 7 ∧ elemB x.1 = false := by
      refine ⟨?_, ?_, ?_, ?_⟩
      · intro q; rw [q] at ht; exact absurd ht (by decide)
      · intro q; rw [q] at ht; exact absurd ht (by decide)
      · intro q; rw [q] at ht; exact absurd ht (by decide)
      · simp only [tellsB, Bool.or_eq_true, decide_eq_true_eq] at ht
        rcases ht with q | q <;> rw [q] <;> rfl
    rw [ht, if_pos rfl] at hx
    unfold ckAttr at hx
    split at hx
    · simp at hx
    · rename_i hel
      split at hx
      · simp at hx
      · split at hx
        · simp at hx
        · simp only [Prod.mk.injEq, true_and] at hx
          subst hx
          refine ⟨_, _, h.stay hne.1 hne.2.1 hL0 hcl (c2 := { c with names := c.names ++ [x.2.1], ahead := x.1 }) hcl (fun q => q.snoc x hne.2.2.2 hne.2.2.1) rfl (fun _ => ?_)⟩
          obtain ⟨run, e, rest, e1, e2, e3, e4⟩ := h.hn (by cases q1 : elemB c.ahead <;> cases q2 : tellsB c.ahead <;> simp_all)
          refine ⟨x :: run, e, rest, by simp [e1], ?_, e3, by simp [e4]⟩
          intro y hy
          rcases List.mem_cons.1 hy with rfl | hy
          · exact ht
          · exact e2 y hy
  | false =>
    rw [ht] at hx
    simp only [Bool.false_eq_true, if_false] at hx
    by_cases h2 : x.1 = 2
    · rw [if_pos h2] at hx
      unfold ckEnds at hx
      rw [hcl] at hx
      match lt, hx with
      | [], hx => simp at hx
      | q :: lt, hx =>
        simp only [Prod.mk.injEq, true_and] at hx
        subst hx
        exact ⟨_, _, h.ends h2 hcl (c2 := { c with l := q :: lt, ahead := x.1 }) rfl rfl⟩
    · rw [if_neg h2] at hx
      obtain ⟨ks, al⟩ := pl0
      unfold ckStands at hx
      rw [hcl] at hx
      simp only at hx
      split at hx
      · simp at hx
      · rename_i hal
        have hal : al = false := by simpa using hal
        subst hal
        split at hx
        · simp at hx
        · split at hx
          · simp at hx
          · split at hx
            · rename_i hel
              simp only [Prod.mk.injEq, true_and] at hx
              subst hx
              by_cases h1 : x.1 = 1
              · exact ⟨_, _, h.opens h1 hL0 hcl (by simp [h1]) rfl rfl⟩
              · refine ⟨_, _, h.stay h1 h2 hL0 hcl (pl1 := (addK x.2.2 ks, false)) (by simp [h1]) (fun q => q.elem x hel) rfl (fun _ => ?_)⟩
                exact ⟨[], x, p.reverse, by simp, by simp, hel, rfl⟩
            · rename_i hel
              have hel : elemB x.1 = false := by simpa using hel
              simp only [Prod.mk.injEq, true_and] at hx
              subst hx
              have h1 : x.1 ≠ 1 := by
                intro q
                rw [q] at hel
                exact absurd hel (by decide)
              refine ⟨_, _, h.stay h1 h2 hL0 hcl (pl1 := (ks, decide (x.1 = 7))) rfl (fun q => q.other x hel) rfl (fun q => ?_)⟩
              rw [hel, ht] at q
              exact absurd q (by decide)
end
end Go.Va
namespace Go.Va
open Go.Proofs
set_option maxRecDepth 100000
def natA (k : Nat) : AV := .s (.int .i64 (.ofNat k))
section
variable (l : List InsT) (t : Nat)
theorem drop_take {i : Nat} (ht : t ≤ l.length) (hi : i < t) : (l.take t).drop i = l[i]'(by omega) :: (l.take t).drop (i + 1) := by
  rw [List.drop_eq_getElem_cons (by simp; omega)]
  simp
theorem lp_bgI (ht : t ≤ l.length) (hl : l.length ≤ 1000) : ∀ (m i : Nat) (S : List Nat), m + i = t → S.length ≤ i →
    lpOf (envV realAr) 63 bd63 3 (stBg (l.map insA) (S.map natA) t i) = some (.code (.exit 0) (stBge (l.map insA) ((bgF ((l.take t).drop i) i S).map natA) t t))
  | 0, i, S, h, _ => by
    have : i = t := by omega
    subst this
    rw [List.drop_of_length_le (by simp; omega)]
    exact lp_bg_end realAr realAr_ok _ _ _ _ _ rfl (nlt_f (Nat.le_refl _))
  | m + 1, i, S, h, hS => by
    have hi : i < l.length := by omega
    have hg := mget insA l hi
    rw [drop_take l t ht (by omega)]
    show _ = some (Res.code _ (stBge _ ((bgF ((l.take t).drop (i + 1)) (i + 1) (bgX l[i] i S)).map natA) t t))
    have hadd : realAr.add .i64 (.ofNat i) 1 = .ofNat (Nat.succ i) := ninc (by omega)
    have hlt : realAr.lt (.ofNat i) (.ofNat t) = true := nlt_t (by omega)
    unfold bgX
    by_cases h1 : l[i].1 = 1
    · rw [if_pos h1]
      exact lp_bg_1 realAr realAr_ok _ _ _ _ i t S.length _ _ _ hg (mlen insA l) (hble (by omega)) (mlen natA S) (msnoc natA S (i + 1)) (hbeq _) hlt (heq_t h1) (heq_f (by omega)) (hfit (by omega)) hadd (lp_bgI ht hl m (i + 1) (S ++ [i + 1]) (by omega) (by simp; omega))
    · rw [if_neg h1]
      by_cases h2 : l[i].1 = 2
      · rw [if_pos h2]
        cases hn : S.length with
        | zero =>
          have : S = [] := List.eq_nil_of_length_eq_zero hn
          subst this
          exact lp_bg_c0 realAr realAr_ok _ _ i t _ _ _ hg (mlen insA l) (hble (by omega)) hlt (heq_f h1) (heq_t h2) hadd (lp_bgI ht hl m (i + 1) [] (by omega) (by simp))
        | succ k =>
          refine lp_bg_2 realAr realAr_ok _ _ _ _ i t k _ _ _ hg (mlen insA l) (hble (by omega)) ((mlen natA S).trans hn) ?_ (hble (by omega)) (Nat.zero_add _) hlt (heq_f h1) (heq_t h2) ?_ (nlt_t (i := 0) (by omega)) hadd (lp_bgI ht hl m (i + 1) S.dropLast (by omega) (by simp; omega))
          · rw [mcut, List.drop_zero, List.dropLast_eq_take, hn]
            rfl
          · exact nsub (i := k + 1) (j := 1) (by omega) (by omega)
      · rw [if_neg h2]
        exact lp_bg_o realAr realAr_ok _ _ _ i t S.length _ _ _ hg (mlen insA l) (hble (by omega)) (mlen natA S) hlt (heq_f h1) (heq_f h2) hadd (lp_bgI ht hl m (i + 1) S (by omega) (by omega))
theorem s_begin (ht : t ≤ l.length) (hl : l.length ≤ 1000) {Sr : List Nat} (h : bgF (l.take t) 0 [] = Sr.reverse) (hr : Sr.length ≤ 1000) :
    evl (envV realAr) (.call 63 [.sl 3 (l.map insA) .imm, .s (.int .i64 (.ofNat t))] []) = some (.ret (.tup [natA (Sr.getD 0 0), natA Sr.length]) []) := by
  have e := lp_bgI l t ht hl t 0 [] rfl (Nat.le_refl _)
  rw [List.drop_zero, h] at e
  match Sr, hr with
  | [], _ => exact eq_begin0 realAr realAr_ok _ _ t e
  | s :: St, hr =>
    simp at hr
    have hlen : ((s :: St).reverse.map natA).length = Nat.succ St.length := by simp
    exact eq_begin1 realAr realAr_ok _ _ t t St.length s hlen (by rw [lget_get]; simp [natA]) (hble (Nat.le_refl _)) (Nat.zero_add _) (heq_f (by intro q; injection q with q; simp at q)) (nsub (i := St.length + 1) (j := 1) (by omega) (by omega)) e
theorem lp_ahI (ht : t ≤ l.length) (hl : l.length ≤ 1000) : ∀ (m i : Nat) (out : List InsT) (d : Int), m + i = t → out.length ≤ i → -(i : Int) ≤ d → d ≤ i →
    lpOf (envV realAr) 102 bd102 5 (stAh (l.map insA) (out.map insA) t d i) = some (.code (.exit 0) (stAhe (l.map insA) ((((l.take t).drop i).foldl scX (out, d)).1.map insA) t (((l.take t).drop i).foldl scX (out, d)).2 t))
  | 0, i, out, d, h, _, _, _ => by
    have : i = t := by omega
    subst this
    rw [List.drop_of_length_le (by simp; omega)]
    exact lp_ah_end realAr realAr_ok _ _ _ _ _ _ rfl (nlt_f (Nat.le_refl _))
  | m + 1, i, out, d, h, ho, hd1, hd2 => by
    have hi : i < l.length := by omega
    have hg := mget insA l hi
    rw [drop_take l t ht (by omega), List.foldl_cons]
    have hadd : realAr.add .i64 (.ofNat i) 1 = .ofNat (Nat.succ i) := ninc (by omega)
    have hlt : realAr.lt (.ofNat i) (.ofNat t) = true := nlt_t (by omega)
    have hb : Nat.ble (Nat.succ i) l.length = true := hble (by omega)
    have ha : realAr.add .i64 d 1 = d + 1 := Go.Va.hadd (by omega) (by omega)
    have hs : realAr.sub .i64 d 1 = d - 1 := hsub (by omega) (by omega)
    have hf : realAr.fit (Nat.succ out.length) 40 = true := hfit (by omega)
    unfold scX
    by_cases h1 : l[i].1 = 1
    · have h2 : l[i].1 ≠ 2 := by omega
      by_cases h0 : d = 0
      · simp only [h1, h0, ne_eq, true_and, if_true, show ¬ (1 : Int) = 2 from by omega, not_false_eq_true]
        subst h0
        exact lp_ah_01 realAr realAr_ok _ _ _ _ i t out.length 0 1 _ _ _ hg (mlen insA l) hb (mlen insA out) (msnoc insA out l[i]) (hbeq _) hlt (heq_t rfl) (heq_f h2) hf (heq_t h1) (by rw [ha]; rfl) hadd (lp_ahI ht hl m (i + 1) (out ++ [l[i]]) 1 (by omega) (by simp; omega) (by omega) (by omega))
      · simp only [h1, h0, ne_eq, false_and, if_true, if_false]
        exact lp_ah_d1 realAr realAr_ok _ _ _ i t out.length d (d + 1) _ _ _ hg (mlen insA l) hb (mlen insA out) hlt (heq_f h0) (heq_f h2) (heq_t h1) ha hadd (lp_ahI ht hl m (i + 1) out (d + 1) (by omega) (by omega) (by omega) (by omega))
    · by_cases h2 : l[i].1 = 2
      · simp only [h2, ne_eq, not_true_eq_false, and_false, if_false, if_true, show ¬ (2 : Int) = 1 from by omega]
        have e := lp_ahI ht hl m (i + 1) out (d - 1) (by omega) (by omega) (by omega) (by omega)
        by_cases h0 : d = 0
        · exact lp_ah_02 realAr realAr_ok _ _ _ i t out.length d (d - 1) _ _ _ hg (mlen insA l) hb (mlen insA out) hlt (heq_t h0) (heq_t h2) (heq_f h1) hs hadd e
        · exact lp_ah_d2 realAr realAr_ok _ _ _ i t out.length d (d - 1) _ _ _ true hg (mlen insA l) hb (mlen insA out) hlt (heq_f h0) (heq_t h2) (heq_f h1) hs hadd e
      · by_cases h0 : d = 0
        · simp only [h1, h2, h0, ne_eq, not_false_eq_true, and_self, if_true, if_false]
          subst h0
          exact lp_ah_0 realAr realAr_ok _ _ _ _ i t out.length 0 _ _ _ hg (mlen insA l) hb (mlen insA out) (msnoc insA out l[i]) (hbeq _) hlt (heq_t rfl) (heq_f h2) hf (heq_f h1) hadd (lp_ahI ht hl m (i + 1) (out ++ [l[i]]) 0 (by omega) (by simp; omega) (by omega) (by omega))
        · simp only [h1, h2, h0, ne_eq, false_and, if_false]
          exact lp_ah_d realAr realAr_ok _ _ _ i t out.length d _ _ _ hg (mlen insA l) hb (mlen insA out) hlt (heq_f h0) (heq_f h2) (heq_f h1) hadd (lp_ahI ht hl m (i + 1) out d (by omega) (by omega) (by omega) (by omega))
end
def seqB (a b : ByteArray) : Bool := a.data.toList == b.data.toList
def atF (a : ByteArray) : List InsT → Nat → Nat
  | [], _ => 9
  | y :: q, c => if tellsB y.1 then (if seqB y.2.1 a then 9 else atF a q (c + 1)) else if 8 ≤ c then 9 else if elemB y.1 then 0 else 9
theorem tells_B (o : Int) : (bif realAr.eq o 5 then true else realAr.eq o 6) = tellsB o := by
  rw [heq, heq]
  unfold tellsB
  cases decide (o = 5) <;> rfl
theorem s_tells (o : Int) : evl (envV realAr) (.call 80 [.s (.int .i64 o)] []) = some (.ret (.s (.bool (tellsB o))) []) := by
  rw [eq_vt_tells, tells_B]
section
variable (l : List InsT) (t : Nat)
theorem lp_atI (ht : t < l.length) (hl : l.length ≤ 1000) : ∀ (k c : Nat), k + c = t → 
    (lpOf (envV realAr) 101 bd101 3 (stAt (l.map insA) t (.ofNat c) ((k : Int) - 1)) = some (.code .ret stAt9) ∧ atF l[t].2.1 (l.take k).reverse c = 9) ∨
    (∃ c', lpOf (envV realAr) 101 bd101 3 (stAt (l.map insA) t (.ofNat c) ((k : Int) - 1)) = some (.code (.exit 0) (stAte (l.map insA) t c' (-1))) ∧ atF l[t].2.1 (l.take k).reverse c = 9) ∨
    (∃ (c' j : Nat) (hj : j < l.length), lpOf (envV realAr) 101 bd101 3 (stAt (l.map insA) t (.ofNat c) ((k : Int) - 1)) = some (.code (.exit 0) (stAte (l.map insA) t (.ofNat c') (.ofNat j))) ∧ atF l[t].2.1 (l.take k).reverse c = if 8 ≤ c' then 9 else if elemB l[j].1 then 0 else 9)
  | 0, c, h => .inr (.inl ⟨_, lp_at_end0 realAr realAr_ok _ _ _ (hle_f (by omega)), rfl⟩)
  | k + 1, c, h => by
    have hk : k < l.length := by omega
    have hg := mget insA l hk
    have hgt := mget insA l ht
    have hb : Nat.ble (Nat.succ k) l.length = true := hble (by omega)
    have hbt : Nat.ble (Nat.succ t) l.length = true := hble (by omega)
    have hz : (((k + 1 : Nat) : Int) - 1) = .ofNat k := by
      show _ = (k : Int)
      omega
    have hle0 : realAr.le 0 (.ofNat k) = true := hle_t (Int.natCast_nonneg k)
    rw [List.take_succ_eq_append_getElem hk, List.reverse_append, List.reverse_singleton, List.singleton_append, hz]
    unfold atF
    have hT := s_tells l[k].1
    cases hb5 : tellsB l[k].1 with
    | false =>
      rw [hb5] at hT
      right; right
      refine ⟨c, k, hk, lp_at_end realAr realAr_ok _ _ _ _ _ _ _ _ hg (mlen insA l) hb hle0 hT, ?_⟩
      simp
    | true =>
      rw [hb5] at hT
      rw [if_pos rfl]
      cases hq : seqB l[k].2.1 l[t].2.1 with
      | true =>
        left
        exact ⟨lp_at_9 realAr realAr_ok _ _ _ _ _ _ _ _ _ _ _ hg (mlen insA l) hb hgt hbt hle0 hT hq, rfl⟩
      | false =>
        simp only [Bool.false_eq_true, if_false]
        have on := fun r => lp_at_on realAr realAr_ok (l.map insA) l.length k t (.ofNat c) (.ofNat (c + 1)) ((k : Int) - 1) l[k].1 l[t].1 l[k].2.1 l[k].2.2 l[t].2.1 l[t].2.2 (r := r) hg (mlen insA l) hb hgt hbt hle0 hT hq (ninc (by omega)) (hsub (a := (k : Int)) (b := 1) (by omega) (by omega))
        rcases lp_atI ht hl k (c + 1) (by omega) with ⟨e1, e2⟩ | ⟨c', e1, e2⟩ | ⟨c', j, hj, e1, e2⟩
        · exact .inl ⟨on _ e1, e2⟩
        · exact .inr (.inl ⟨c', on _ e1, e2⟩)
        · exact .inr (.inr ⟨c', j, hj, on _ e1, e2⟩)
theorem s_attr (ht : t < l.length) (hl : l.length ≤ 1000) : evl (envV realAr) (.call 101 [.sl 3 (l.map insA) .imm, .s (.int .i64 (.ofNat t))] []) = some (.ret (natA (atF l[t].2.1 (l.take t).reverse 0)) []) := by
  have h0 : realAr.sub .i64 (.ofNat t) 1 = (t : Int) - 1 := hsub (a := (t : Int)) (b := 1) (by omega) (by omega)
  rcases lp_atI l t ht hl t 0 rfl with ⟨e1, e2⟩ | ⟨c', e1, e2⟩ | ⟨c', j, hj, e1, e2⟩
  · rw [e2]
    exact eq_attr9 realAr realAr_ok _ _ _ h0 e1
  · rw [e2]
    exact eq_attr9a realAr realAr_ok _ _ _ _ h0 e1 (hlt_t (by omega))
  · rw [e2]
    have := eq_attr realAr realAr_ok _ _ _ _ _ _ _ _ _ (mget insA l hj) (mlen insA l) (hble (by omega)) h0 e1 (hlt_f (Int.natCast_nonneg j))
    refine this.trans ?_
    rw [hle, heq, heq]
    unfold elemB natA
    by_cases h8 : 8 ≤ c'
    · rw [if_pos h8, show decide ((8 : Int) ≤ .ofNat c') = true from decide_eq_true (by show (8 : Int) ≤ (c' : Int); omega)]
      rfl
    · rw [if_neg h8, show decide ((8 : Int) ≤ .ofNat c') = false from decide_eq_false (by show ¬ (8 : Int) ≤ (c' : Int); omega)]
      cases decide (l[j].1 = 1) <;> cases decide (l[j].1 = 3) <;> rfl
end
end Go.Va
namespace Go.Va
open Go.Proofs
set_option maxRecDepth 100000
theorem lp_wrI (y0 : List InsT) (hl : y0.length ≤ 1000) (oT : Int) (aT bT : ByteArray) (dd : Int) : ∀ (m i : Nat) (key : Bool), m + i = y0.length →
    (lpOf (envV realAr) 62 bd62 15 (stWr (y0.map insA) oT aT bT dd key i) = some (.code .ret stWr11) ∧ ((y0.drop i).any fun j => decide (j.1 = 7)) = true) ∨
    (lpOf (envV realAr) 62 bd62 15 (stWr (y0.map insA) oT aT bT dd key i) = some (.code (.exit 0) (stWre (y0.map insA) oT aT bT dd (key || (y0.drop i).any fun j => elemB j.1 && (j.2.2.data.toList == bT.data.toList)) y0.length)) ∧ ((y0.drop i).any fun j => decide (j.1 = 7)) = false)
  | 0, i, key, h => by
    have : i = y0.length := by omega
    subst this
    rw [List.drop_length, List.any_nil, List.any_nil, Bool.or_false]
    exact .inr ⟨lp_wr_end realAr realAr_ok _ _ _ _ _ _ _ _ (mlen insA y0) (nlt_f (Nat.le_refl _)), rfl⟩
  | m + 1, i, key, h => by
    have hi : i < y0.length := by omega
    have hg := mget insA y0 hi
    rw [List.drop_eq_getElem_cons hi, List.any_cons, List.any_cons]
    have hadd : realAr.add .i64 (.ofNat i) 1 = .ofNat (Nat.succ i) := ninc (by omega)
    have hlt : realAr.lt (.ofNat i) (.ofNat y0.length) = true := nlt_t (by omega)
    have hb : Nat.ble (Nat.succ i) y0.length = true := hble (by omega)
    by_cases h7 : y0[i].1 = 7
    · left
      exact ⟨lp_wr_11 realAr realAr_ok (bs := y0.map insA) (n := y0.length) (i := i) (dd := dd) (o := y0[i].1) (oT := oT) (a := y0[i].2.1) (b := y0[i].2.2) (aT := aT) (bT := bT) (key := key) hg (mlen insA y0) hb (Nat.zero_add _) hlt (heq_t h7), by simp [h7]⟩
    · rw [show decide (y0[i].1 = 7) = false from decide_eq_false h7, Bool.false_or]
      cases he : elemB y0[i].1 with
      | true =>
        have he3 : (bif realAr.eq y0[i].1 1 then true else realAr.eq y0[i].1 3) = true := by
          rw [heq, heq, ← he]
          unfold elemB
          cases decide (y0[i].1 = 1) <;> rfl
        have hbe : (bif key then true else (y0[i].2.2.data.toList == bT.data.toList)) = (key || (y0[i].2.2.data.toList == bT.data.toList)) := by cases key <;> rfl
        have on := fun r => lp_wr_e realAr realAr_ok (bs := y0.map insA) (n := y0.length) (i := i) (dd := dd) (o := y0[i].1) (oT := oT) (a := y0[i].2.1) (b := y0[i].2.2) (aT := aT) (bT := bT) (key := key) (q := (y0[i].2.2.data.toList == bT.data.toList)) (r := r) hg (mlen insA y0) hb (Nat.zero_add _) hlt (heq_f h7) he3 rfl hadd
        rw [hbe] at on
        rw [Bool.true_and, ← Bool.or_assoc]
        rcases lp_wrI y0 hl oT aT bT dd m (i + 1) (key || (y0[i].2.2.data.toList == bT.data.toList)) (by omega) with ⟨e1, e2⟩ | ⟨e1, e2⟩
        · exact .inl ⟨on _ e1, e2⟩
        · exact .inr ⟨on _ e1, e2⟩
      | false =>
        have h13 : y0[i].1 ≠ 1 ∧ y0[i].1 ≠ 3 := by
          unfold elemB at he
          rw [Bool.or_eq_false_iff, decide_eq_false_iff_not, decide_eq_false_iff_not] at he
          exact he
        have on := fun r => lp_wr_o realAr realAr_ok (bs := y0.map insA) (n := y0.length) (i := i) (dd := dd) (o := y0[i].1) (oT := oT) (a := y0[i].2.1) (b := y0[i].2.2) (aT := aT) (bT := bT) (key := key) (r := r) hg (mlen insA y0) hb (Nat.zero_add _) hlt (heq_f h7) (heq_f h13.1) (heq_f h13.2) hadd
        rw [Bool.false_and, Bool.false_or]
        rcases lp_wrI y0 hl oT aT bT dd m (i + 1) key (by omega) with ⟨e1, e2⟩ | ⟨e1, e2⟩
        · exact .inl ⟨on _ e1, e2⟩
        · exact .inr ⟨on _ e1, e2⟩
theorem atF_run (a : ByteArray) (e : InsT) (rest : List InsT) (he : elemB e.1 = true) (hne : tellsB e.1 = false) : ∀ (run : List InsT) (c : Nat), (∀ y ∈ run, tellsB y.1 = true) →
    atF a (run ++ e :: rest) c = if (run.any fun y => seqB y.2.1 a) then 9 else if 8 ≤ c + run.length then 9 else 0
  | [], c, _ => by simp [atF, he, hne]
  | y :: run, c, h => by
    rw [List.cons_append]
    unfold atF
    rw [if_pos (h y (by simp)), List.any_cons]
    cases q : seqB y.2.1 a with
    | true => simp
    | false =>
      rw [atF_run a e rest he hne run (c + 1) (fun z hz => h z (by simp [hz]))]
      simp only [Bool.false_eq_true, if_false, Bool.false_or, List.length_cons]
      rw [show c + 1 + run.length = c + (run.length + 1) by omega]
section
variable {p : List InsT} {c : CkS} {Sr : List Nat} {L : List (List InsT)}
theorem VInv.attr (h : VInv p c Sr L) (a : ByteArray) : atF a p.reverse 0 = (ckAttr c a).1 := by
  unfold ckAttr
  cases q : (elemB c.ahead || tellsB c.ahead) with
  | true =>
    obtain ⟨run, e, rest, e1, e2, e3, e4⟩ := h.hn q
    have hne : tellsB e.1 = false := by
      unfold elemB at e3
      simp only [Bool.or_eq_true, decide_eq_true_eq] at e3
      rcases e3 with q | q <;> rw [q] <;> rfl
    rw [e1, atF_run a e rest e3 hne run 0 e2]
    have hk : hasK a c.names = run.any fun y => seqB y.2.1 a := by
      rw [e4]
      unfold hasK
      rw [List.any_reverse, List.any_map]
      rfl
    have hlen : c.names.length = run.length := by rw [e4]; simp
    rw [hk, hlen, Nat.zero_add]
    simp only [Bool.not_true, Bool.false_eq_true, if_false]
    split
    · rfl
    · split <;> rfl
  | false =>
    rw [Bool.or_eq_false_iff] at q
    rw [h.hah] at q
    simp only [Bool.not_false, if_true]
    cases hr : p.reverse with
    | nil => rfl
    | cons y r =>
      rw [hr] at q
      simp only [List.head?_cons, Option.map_some, Option.getD_some] at q
      simp [atF, q]
end
section
variable (l : List InsT) (t : Nat)
theorem s_wrong (ht : t < l.length) (hl : l.length ≤ 1000) (hz : l[t].2.1.size ≤ 9223372036854775807 ∧ l[t].2.2.size ≤ 9223372036854775807) {c : CkS} {Sr : List Nat} {L : List (List InsT)} (h : VInv (l.take t) c Sr L) (hr : Sr.length ≤ 1000) (hL : ∀ y ∈ L, y.length ≤ 1000) :
    evl (envV realAr) (.call 62 [.sl 3 (l.map insA) .imm, .s (.int .i64 (.ofNat t))] []) = some (.ret (natA (ckOne c (insP l[t]) l[t]).1) []) := by
  have hg := mget insA l ht
  have hlen := mlen insA l
  have hb : Nat.ble (Nat.succ t) l.length = true := hble (by omega)
  have hmay := s_ref11_May l[t] hz.1 hz.2
  cases hm : insP l[t] with
  | false =>
    rw [hm] at hmay
    exact eq_wrong7 realAr realAr_ok _ _ _ _ _ _ hg hlen hb hmay
  | true =>
    rw [hm] at hmay
    have hT := s_tells l[t].1
    unfold ckOne
    rw [Bool.not_true, if_neg (by simp)]
    cases h5 : tellsB l[t].1 with
    | true =>
      rw [h5] at hT
      rw [if_pos rfl, ← h.attr]
      exact eq_wrong_at realAr realAr_ok _ _ _ _ _ _ _ hg hlen hb hmay hT (s_attr l t ht hl)
    | false =>
      rw [h5] at hT
      rw [if_neg (by simp)]
      obtain ⟨y0, Lt, pl0, lt, hL0, hcl, hp0, hl1, hl2⟩ := h.two
      have hbeg := s_begin l t (by omega) hl h.hS hr
      by_cases h2 : l[t].1 = 2
      · rw [if_pos h2]
        refine (eq_wrong_c realAr realAr_ok _ _ _ _ _ _ _ _ hg hlen hb hmay hT hbeg (heq_t h2)).trans ?_
        unfold ckEnds
        rw [hcl, heq]
        match lt, hl2 with
        | [], hl2 => rw [← hl2]; rfl
        | q :: lt, hl2 => rw [← hl2]; rfl
      · rw [if_neg h2]
        have hah : evl (envV realAr) (.call 102 [.sl 3 (l.map insA) .imm, .s (.int .i64 (.ofNat t))] []) = some (.ret (.sl 3 (y0.map insA) .full) []) := by
          have hle := h.hle 0
          simp only [List.length_take] at hle
          have e := lp_ahI l t (by omega) hl (t - Sr.getD 0 0) (Sr.getD 0 0) [] 0 (by omega) (by simp) (by omega) (by omega)
          have e2 := h.hsc 0 y0 (by rw [hL0]; rfl)
          unfold scF at e2
          rw [e2] at e
          exact eq_ahead realAr realAr_ok _ _ _ _ _ _ _ _ rfl (hble (Nat.le_refl _)) (List.take_of_length_le (Nat.le_refl _)) hbeg e
        have hy0 : y0.length ≤ 1000 := hL y0 (by rw [hL0]; simp)
        obtain ⟨ks, al⟩ := pl0
        have hall := hp0.all
        have hkeys := hp0.keys l[t].2.2
        simp only at hall hkeys
        unfold ckStands
        rw [hcl]
        simp only
        rcases lp_wrI y0 hy0 l[t].1 l[t].2.1 l[t].2.2 (.ofNat Sr.length) y0.length 0 false rfl with ⟨e1, e2⟩ | ⟨e1, e2⟩
        · rw [List.drop_zero, ← hall] at e2
          rw [e2, if_pos rfl]
          exact eq_wrong_11 realAr realAr_ok _ _ _ _ _ _ _ _ _ hg hlen hb hmay hT hbeg (heq_f h2) hah e1
        · rw [List.drop_zero, ← hall] at e2
          rw [List.drop_zero, ← hkeys] at e1
          rw [e2, if_neg (by simp)]
          refine (eq_wrong realAr realAr_ok _ _ _ _ _ _ _ _ _ _ _ hg hlen hb hmay hT hbeg (heq_f h2) hah e1).trans ?_
          rw [heq, heq, hle, Bool.false_or, ← hl2]
          have hseq : realAr.seq l[t].2.2 ⟨#[]⟩ = (l[t].2.2.data.toList == []) := rfl
          rw [hseq]
          have h8 : decide ((8 : Int) ≤ .ofNat lt.length) = decide (8 < lt.length + 1) := by
            apply Bool.eq_iff_iff.2
            rw [decide_eq_true_eq, decide_eq_true_eq]
            show (8 : Int) ≤ (lt.length : Int) ↔ _
            omega
          rw [h8]
          unfold elemB
          cases q1 : decide (l[t].1 = 1) <;> cases q3 : decide (l[t].1 = 3) <;> cases q4 : hasK l[t].2.2 ks <;> cases q5 : (l[t].2.2.data.toList == []) <;> cases q6 : decide (8 < lt.length + 1) <;> simp only [q1, q3, q4, q5, q6, Bool.or_true, Bool.or_false, Bool.true_or, Bool.and_true, Bool.and_false, Bool.true_and, Bool.false_and, Bool.not_true, Bool.not_false, cond_true, cond_false, if_true, if_false, Bool.false_eq_true] <;> rfl
end
end Go.Va
namespace Go.Va
open Go.Proofs
set_option maxRecDepth 100000
theorem scF_len : ∀ (l : List InsT) (s : List InsT × Int), (l.foldl scX s).1.length ≤ s.1.length + l.length
  | [], s => Nat.le_refl _
  | x :: l, s => by
    have := scF_len l (scX s x)
    have h2 : (scX s x).1.length ≤ s.1.length + 1 := by
      unfold scX
      simp only
      split
      · simp
      · omega
    rw [List.foldl_cons, List.length_cons]
    omega
theorem bgF_len : ∀ (l : List InsT) (i : Nat) (S : List Nat), (bgF l i S).length ≤ S.length + l.length
  | [], i, S => Nat.le_refl _
  | x :: l, i, S => by
    have := bgF_len l (i + 1) (bgX x i S)
    have h2 : (bgX x i S).length ≤ S.length + 1 := by
      unfold bgX
      split
      · simp
      · split
        · simp; omega
        · omega
    simp only [bgF, List.length_cons]
    omega
theorem VInv.few {p : List InsT} {c : CkS} {Sr : List Nat} {L : List (List InsT)} (h : VInv p c Sr L) (hp : p.length ≤ 1000) : Sr.length ≤ 1000 ∧ ∀ y ∈ L, y.length ≤ 1000 := by
  constructor
  · have := bgF_len p 0 []
    rw [h.hS] at this
    simp at this
    omega
  · intro y hy
    obtain ⟨d, hd, rfl⟩ := List.getElem_of_mem hy
    have e := h.hsc d _ (List.getElem?_eq_getElem hd)
    have e2 := scF_len (p.drop (Sr.getD d 0)) ([], 0)
    unfold scF at e
    rw [e] at e2
    simp at e2
    omega
theorem ckOne_le (c : CkS) (b : Bool) (x : InsT) : (ckOne c b x).1 ≤ 13 := by
  unfold ckOne
  split
  · simp
  · split
    · unfold ckAttr
      split
      · simp
      · split
        · simp
        · split <;> simp
    · split
      · unfold ckEnds
        split <;> simp
      · unfold ckStands
        split
        · simp
        · split
          · simp
          · split
            · simp
            · split
              · simp
              · split <;> simp
theorem insL_map : ∀ (l : List InsT), insL (l.map insA) = some l
  | [] => rfl
  | x :: l => by
    rw [List.map_cons, insL, insL_map l]
    rfl
section
variable (l : List InsT) (hl : l.length ≤ 1000) (hz : fewOk l)
include hl hz
theorem ck_run : ∀ (m t : Nat) (c : CkS) (Sr : List Nat) (L : List (List InsT)), m + t = l.length → VInv (l.take t) c Sr L →
    ∃ e, e ≤ 13 ∧ (ckProg 39 59 (l.drop t) c).run (evl (envV realAr)) = some (.ret (codeN 39 e) []) ∧
      (lpOf (envV realAr) 24 bd24 4 (stCk (l.map insA) t) = some (.code .ret (stCkr e)) ∨
       lpOf (envV realAr) 24 bd24 4 (stCk (l.map insA) t) = some (.code (.exit 0) (stCke (l.map insA) l.length)) ∧
        ∃ (ff k : Nat), evl (envV realAr) (.call 63 [.sl 3 (l.map insA) .imm, .s (.int .i64 (.ofNat l.length))] []) = some (.ret (.tup [natA ff, natA k]) []) ∧ e = if 0 < k then 8 else 0)
  | 0, t, c, Sr, L, h, hv => by
    have : t = l.length := by omega
    subst this
    obtain ⟨hr, -⟩ := hv.few (by simp; omega)
    have hlen := hv.hc
    have hL := hv.hL
    refine ⟨if 1 < c.l.length then 8 else 0, by split <;> omega, ?_, .inr ⟨?_, Sr.getD 0 0, Sr.length, s_begin l _ (Nat.le_refl _) hl hv.hS hr, ?_⟩⟩
    · rw [List.drop_length]
      unfold ckProg okR
      rw [Prog.run_done]
    · exact lp_ck_end realAr realAr_ok _ _ _ (mlen insA l) (nlt_f (Nat.le_refl _))
    · rw [hlen, hL]
      simp
  | m + 1, t, c, Sr, L, h, hv => by
    have ht : t < l.length := by omega
    obtain ⟨ha, hb⟩ := hz l[t] (List.getElem_mem ht)
    obtain ⟨hr, hLs⟩ := hv.few (by simp; omega)
    have hw := s_wrong l t ht hl ⟨by omega, by omega⟩ hv hr hLs
    rw [List.drop_eq_getElem_cons ht]
    unfold ckProg
    rw [Prog.run_ask, show Task.call 59 [insAV l[t]] [] = Task.call 59 [insA l[t]] [] from rfl, s_ins_May l[t] (by omega) (by omega)]
    simp only
    have hle := ckOne_le c (insP l[t]) l[t]
    have hadd : realAr.add .i64 (.ofNat t) 1 = .ofNat (Nat.succ t) := ninc (by omega)
    have hlt : realAr.lt (.ofNat t) (.ofNat l.length) = true := nlt_t (by omega)
    rcases hx : ckOne c (insP l[t]) l[t] with ⟨e, c2⟩
    rw [hx] at hw hle
    match e, hx, hw, hle with
    | 0, hx, hw, _ =>
      have hm : insP l[t] = true := by
        cases q : insP l[t] with
        | true => rfl
        | false => rw [q] at hx; simp [ckOne] at hx
      rw [hm] at hx
      obtain ⟨Sr', L', hv'⟩ := hv.step l[t] hx
      rw [← List.take_succ_eq_append_getElem ht] at hv'
      obtain ⟨e, he, h1, h2⟩ := ck_run m (t + 1) _ Sr' L' (by omega) hv'
      refine ⟨e, he, h1, ?_⟩
      have on := fun r => lp_ck_on realAr realAr_ok (l.map insA) l.length t (r := r) (mlen insA l) hlt hw (heq_t rfl) hadd
      rcases h2 with h2 | ⟨h2, h3⟩
      · exact .inl (on _ h2)
      · exact .inr ⟨on _ h2, h3⟩
    | e + 1, hx, hw, hle =>
      refine ⟨e + 1, hle, ?_, .inl ?_⟩
      · unfold okR
        simp only
        rw [Prog.run_done]
      · exact lp_ck_e realAr realAr_ok _ _ _ _ (mlen insA l) hlt hw (heq_f (by show ((e + 1 : Nat) : Int) ≠ 0; omega))
theorem s_checks : ∃ e, e ≤ 13 ∧ evl (envV realAr) (.call 23 [.sl 3 (l.map insA) .imm] []) = some (.ret (codeN 39 e) []) ∧ evl (envV realAr) (.call 24 [.sl 3 (l.map insA) .imm] []) = some (.ret (natA e) []) := by
  rw [evl_ext (envV realAr) _ _ _ (e := yCheck 39 59) rfl]
  show ∃ e, e ≤ 13 ∧ (ckAll 39 59 (l.map insA)).run _ = _ ∧ _
  unfold ckAll
  rw [insL_map]
  simp only
  by_cases h : 120 < l.length
  · refine ⟨13, Nat.le_refl _, ?_, eq_Check13 realAr realAr_ok _ _ (mlen insA l) (hlt_t (by show (120 : Int) < (l.length : Int); omega))⟩
    rw [show Nat.blt 120 l.length = true from hble (by omega)]
    unfold okR
    rw [cond_true, Prog.run_done]
  · have h120 : realAr.lt 120 (.ofNat l.length) = false := hlt_f (by show (l.length : Int) ≤ 120; omega)
    have hb : Nat.blt 120 l.length = false := by
      cases q : Nat.blt 120 l.length with
      | false => rfl
      | true => exact (h (Nat.le_of_ble_eq_true q)).elim
    rw [hb, cond_false]
    obtain ⟨e, he, h1, h2⟩ := ck_run l hl hz l.length 0 ck0 [] [[]] (by omega) vinv0
    refine ⟨e, he, h1, ?_⟩
    rcases h2 with h2 | ⟨h2, ff, k, h3, h4⟩
    · exact eq_Check_e realAr realAr_ok _ _ _ (mlen insA l) h120 h2
    · refine (eq_Check_end realAr realAr_ok _ _ _ _ (mlen insA l) h120 h2 h3).trans ?_
      rw [h4, hlt]
      by_cases hk : 0 < k
      · rw [if_pos hk, show decide ((0 : Int) < .ofNat k) = true from decide_eq_true (by show (0 : Int) < (k : Int); omega)]
        rfl
      · rw [if_neg hk, show decide ((0 : Int) < .ofNat k) = false from decide_eq_false (by show ¬ (0 : Int) < (k : Int); omega)]
        rfl
end
theorem validTells_law (l : List InsT) (hl : l.length ≤ 9223372036854775807) : evl (envV realAr) (.call 5 [.sl 3 (l.map insA) .imm] []) = some (.ret (.s (.bool true)) []) := by
  rcases s_few l hl with h | ⟨h, hf, h150⟩
  · exact eq_ValidTells0 realAr realAr_ok _ s_law13_up h (heq_t rfl)
  · obtain ⟨e, he, h1, h2⟩ := s_checks l (by omega) hf
    refine eq_ValidTells realAr realAr_ok _ _ (codeN 39 e) ?_ s_law13_up h (heq_f (by decide)) h1 (s_law00_Code e he) h2 (heq_t rfl)
    cases e with
    | zero => exact .inl rfl
    | succ n => exact .inr ⟨_, rfl⟩
end Go.Va
