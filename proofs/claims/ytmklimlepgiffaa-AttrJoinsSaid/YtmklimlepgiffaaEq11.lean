/- The functions that the statement reaches, by equations: no statement of its own. -/
import Derived.Test.YtmklimlepgiffaaEq10
set_option linter.unusedVariables false
set_option linter.unusedSimpArgs false
set_option linter.unusedSectionVars false
namespace Go.Va
open Go.Proofs
set_option maxRecDepth 100000
set_option maxHeartbeats 4000000
def stAT (xs ys : List AV) (nm : ByteArray) (w : List AV) (met : Bool) (d : Int) : St := { n := 100, k := 0, fr := [(0, .sl 3 xs .imm), (1, .sl 3 ys .imm), (2, .s (.string nm)), (7, .s (.bool true)), (8, .ptr 0 0), (9, .s (.bool met)), (10, .s (.int .i64 d))], O := [w] }
def stATe (xs ys : List AV) (nm : ByteArray) (w : List AV) (met : Bool) (d : Int) : St := { n := 100, k := 0, fr := [(0, .sl 3 xs .imm), (1, .sl 3 ys .imm), (2, .s (.string nm)), (7, .s (.bool true)), (8, .ptr 0 0), (9, .s (.bool met)), (10, .s (.int .i64 d)), (33, .s (.bool false))], O := [w] }
section
variable (A : Ar) (hA : ArOk A) (xs ys ps qs : List AV) (n m i j k k2 : Nat) (nm a c a2 c2 : ByteArray) (st st2 met : Bool) (d : Int)
include hA
theorem lp_at_loop {r : Option Res} (e0 : xs.length = n) (e2 : lget xs i = some (.agg [.s (.string a), .s (.string c), .s (.bool st)])) (e3 : Nat.ble (Nat.succ i) n = true) (h2 : A.le 0 (.ofNat i) = true) (h4 : A.sub .i64 (.ofNat i) 1 = d)
    (hr : lpOf (envV A) 12 bd12 7 (bif A.seq a nm then stAT xs ys nm [.s (.string a), .s (.string c), .s (.bool st)] true d else stAT xs ys nm [.s (.string a2), .s (.string c2), .s (.bool st2)] met d) = r) :
    lpOf (envV A) 12 bd12 7 (stAT xs ys nm [.s (.string a2), .s (.string c2), .s (.bool st2)] met (.ofNat i)) = r := by
  unfold stAT at hr ⊢
  cases hq : A.seq a nm <;> rw [hq] at hr <;> simp only [cond_true, cond_false] at hr
  ·
    rw [lp_step (envV A) 12 (c0 := bd12) (lv := lvF12) rfl rfl]
    have hnle := hA.nleE; have hneq := hA.neqE
    have klt := hA.lt; have kle := hA.le; have keq := hA.eq; have knle := hA.nle; have kneq := hA.neq
    rw [lp_split (lpOf (envV A) 12 bd12) 7]
    generalize lpOf (envV A) 12 bd12 7 = L7 at e0 e2 e3 h2 h4 hr hq ⊢
    generalize lpOf (envV A) 12 bd12 = LP
    generalize evl (envV A) = E at e0 e2 e3 h2 h4 hr hq ⊢
    obtain ⟨aadd, asub, amul, arem, aquo, awr, ashr, aeq, alt, ale, aseq, aslt, acat, acut, asiz, aat, anle, aneq, afit⟩ := A
    simp only at hnle hneq
    subst hnle hneq
    simp only at klt kle keq knle kneq
    try simp only at h2 h4 hr hq
    conv at e0 => lhs; cbv
    conv at e2 => lhs; cbv
    conv at e3 => lhs; cbv
    cbv
    rewrite [h2]
    cbv
    rewrite [e2]
    cbv
    rewrite [hq]
    cbv
    rewrite [h4]
    cbv
    rewrite [hr]
    cbv
  ·
    rw [lp_step (envV A) 12 (c0 := bd12) (lv := lvF12) rfl rfl]
    have hnle := hA.nleE; have hneq := hA.neqE
    have klt := hA.lt; have kle := hA.le; have keq := hA.eq; have knle := hA.nle; have kneq := hA.neq
    rw [lp_split (lpOf (envV A) 12 bd12) 7]
    generalize lpOf (envV A) 12 bd12 7 = L7 at e0 e2 e3 h2 h4 hr hq ⊢
    generalize lpOf (envV A) 12 bd12 = LP
    generalize evl (envV A) = E at e0 e2 e3 h2 h4 hr hq ⊢
    obtain ⟨aadd, asub, amul, arem, aquo, awr, ashr, aeq, alt, ale, aseq, aslt, acat, acut, asiz, aat, anle, aneq, afit⟩ := A
    simp only at hnle hneq
    subst hnle hneq
    simp only at klt kle keq knle kneq
    try simp only at h2 h4 hr hq
    conv at e0 => lhs; cbv
    conv at e2 => lhs; cbv
    conv at e3 => lhs; cbv
    cbv
    rewrite [h2]
    cbv
    rewrite [e2]
    cbv
    rewrite [hq]
    cbv
    rewrite [e2]
    cbv
    rewrite [h4]
    cbv
    rewrite [hr]
    cbv
theorem lp_at_end (h2 : A.le 0 d = false) : lpOf (envV A) 12 bd12 7 (stAT xs ys nm [.s (.string a2), .s (.string c2), .s (.bool st2)] met d) = some (.code (.exit 0) (stATe xs ys nm [.s (.string a2), .s (.string c2), .s (.bool st2)] met d)) := by
  unfold stAT stATe
  rw [lp_step (envV A) 12 (c0 := bd12) (lv := lvF12) rfl rfl]
  have hnle := hA.nleE; have hneq := hA.neqE
  have klt := hA.lt; have kle := hA.le; have keq := hA.eq; have knle := hA.nle; have kneq := hA.neq
  generalize lpOf (envV A) 12 bd12 = LP
  generalize evl (envV A) = E at h2 ⊢
  obtain ⟨aadd, asub, amul, arem, aquo, awr, ashr, aeq, alt, ale, aseq, aslt, acat, acut, asiz, aat, anle, aneq, afit⟩ := A
  simp only at hnle hneq
  subst hnle hneq
  simp only at klt kle keq knle kneq
  try simp only at h2
  cbv
  rewrite [h2]
  cbv
theorem eq_at_few1 (h0 : evl (envV A) (.call 60 [] []) = some (.ret (.s (.bool true)) [])) (h1 : evl (envV A) (.call 61 [.sl 3 xs .imm] []) = some (.ret (.s (.int .i64 0)) [])) :
    evl (envV A) (.call 12 [.sl 3 xs .imm, .sl 3 ys .imm, .s (.string nm)] []) = some (.ret (.s (.bool true)) []) := by
  rw [evl_fn (envV A) 12 _ _ (fn := Try.f12) (c := bd12) (lv := lvF12) rfl rfl rfl rfl rfl rfl]
  have hnle := hA.nleE; have hneq := hA.neqE
  have klt := hA.lt; have kle := hA.le; have keq := hA.eq; have knle := hA.nle; have kneq := hA.neq
  generalize lpOf (envV A) 12 bd12 = LP
  generalize evl (envV A) = E at h0 h1 ⊢
  obtain ⟨aadd, asub, amul, arem, aquo, awr, ashr, aeq, alt, ale, aseq, aslt, acat, acut, asiz, aat, anle, aneq, afit⟩ := A
  simp only at hnle hneq
  subst hnle hneq
  simp only at klt kle keq knle kneq
  try simp only at h0 h1
  cbv
  rewrite [h0]
  cbv
  rewrite [h1]
  cbv
  rewrite [keq (0) (0)]
  cbv
theorem eq_at_few2 (h0 : evl (envV A) (.call 60 [] []) = some (.ret (.s (.bool true)) [])) (h1 : evl (envV A) (.call 61 [.sl 3 xs .imm] []) = some (.ret (.s (.int .i64 1)) [])) (h2 : evl (envV A) (.call 61 [.sl 3 ys .imm] []) = some (.ret (.s (.int .i64 0)) [])) :
    evl (envV A) (.call 12 [.sl 3 xs .imm, .sl 3 ys .imm, .s (.string nm)] []) = some (.ret (.s (.bool true)) []) := by
  rw [evl_fn (envV A) 12 _ _ (fn := Try.f12) (c := bd12) (lv := lvF12) rfl rfl rfl rfl rfl rfl]
  have hnle := hA.nleE; have hneq := hA.neqE
  have klt := hA.lt; have kle := hA.le; have keq := hA.eq; have knle := hA.nle; have kneq := hA.neq
  generalize lpOf (envV A) 12 bd12 = LP
  generalize evl (envV A) = E at h0 h1 h2 ⊢
  obtain ⟨aadd, asub, amul, arem, aquo, awr, ashr, aeq, alt, ale, aseq, aslt, acat, acut, asiz, aat, anle, aneq, afit⟩ := A
  simp only at hnle hneq
  subst hnle hneq
  simp only at klt kle keq knle kneq
  try simp only at h0 h1 h2
  cbv
  rewrite [h0]
  cbv
  rewrite [h1]
  cbv
  rewrite [keq (1) (0)]
  cbv
  rewrite [h2]
  cbv
  rewrite [keq (0) (0)]
  cbv
theorem eq_at_few3 (z : Nat) (h0 : evl (envV A) (.call 60 [] []) = some (.ret (.s (.bool true)) [])) (h1 : evl (envV A) (.call 61 [.sl 3 xs .imm] []) = some (.ret (.s (.int .i64 1)) [])) (h2 : evl (envV A) (.call 61 [.sl 3 ys .imm] []) = some (.ret (.s (.int .i64 1)) [])) (h3 : A.siz nm = z) (h4 : A.lt 100 (.ofNat z) = true) :
    evl (envV A) (.call 12 [.sl 3 xs .imm, .sl 3 ys .imm, .s (.string nm)] []) = some (.ret (.s (.bool true)) []) := by
  rw [evl_fn (envV A) 12 _ _ (fn := Try.f12) (c := bd12) (lv := lvF12) rfl rfl rfl rfl rfl rfl]
  have hnle := hA.nleE; have hneq := hA.neqE
  have klt := hA.lt; have kle := hA.le; have keq := hA.eq; have knle := hA.nle; have kneq := hA.neq
  generalize lpOf (envV A) 12 bd12 = LP
  generalize evl (envV A) = E at h0 h1 h2 h3 h4 ⊢
  obtain ⟨aadd, asub, amul, arem, aquo, awr, ashr, aeq, alt, ale, aseq, aslt, acat, acut, asiz, aat, anle, aneq, afit⟩ := A
  simp only at hnle hneq
  subst hnle hneq
  simp only at klt kle keq knle kneq
  try simp only at h0 h1 h2 h3 h4
  cbv
  rewrite [h0]
  cbv
  rewrite [h1]
  cbv
  rewrite [keq (1) (0)]
  cbv
  rewrite [h2]
  cbv
  rewrite [keq (1) (0)]
  cbv
  rewrite [h3]
  cbv
  rewrite [h4]
  cbv
theorem eq_at (z : Nat) (q1 q2 : Bool) (d2 : Int) (h0 : evl (envV A) (.call 60 [] []) = some (.ret (.s (.bool true)) [])) (h1 : evl (envV A) (.call 61 [.sl 3 xs .imm] []) = some (.ret (.s (.int .i64 1)) [])) (h2 : evl (envV A) (.call 61 [.sl 3 ys .imm] []) = some (.ret (.s (.int .i64 1)) [])) (h3 : A.siz nm = z) (h4 : A.lt 100 (.ofNat z) = false)
    (e0 : xs.length = n) (h5 : A.sub .i64 (.ofNat n) 1 = d) (h6 : lpOf (envV A) 12 bd12 7 (stAT xs ys nm [.s (.string ⟨#[]⟩), .s (.string ⟨#[]⟩), .s (.bool false)] false d) = some (.code (.exit 0) (stATe xs ys nm [.s (.string a), .s (.string c), .s (.bool st)] met d2)))
    (h7 : evl (envV A) (.call 62 [.sl 3 xs .imm, .s (.string nm)] []) = some (.ret (.tup [.agg [.s (.string a), .s (.string c), .s (.bool st)], .s (.bool met)]) []))
    (h8 : evl (envV A) (.call 63 [.sl 3 xs .imm] []) = some (.ret (.s (.bool q1)) [])) (h9 : evl (envV A) (.call 64 [.sl 3 xs .imm] []) = some (.ret (.s (.bool q1)) []))
    (h10 : evl (envV A) (.call 65 [.sl 3 xs .imm, .sl 3 ys .imm] []) = some (.ret (.s (.bool q2)) [])) (h11 : evl (envV A) (.call 66 [.sl 3 xs .imm, .sl 3 ys .imm] []) = some (.ret (.s (.bool q2)) []))
    (h12 : evl (envV A) (.call 65 [.sl 3 xs .imm, .sl 3 xs .imm] []) = some (.ret (.s (.bool true)) []))
    (h13 : evl (envV A) (.call 67 [.sl 3 xs .imm, .sl 3 ys .imm] []) = some (.ret (.sl 3 ps .full) [])) (h14 : evl (envV A) (.call 68 [.sl 3 xs .imm, .sl 3 ys .imm] []) = some (.ret (.sl 3 ps .full) []))
    (h15 : evl (envV A) (.call 66 [.sl 3 ps .full, .sl 3 ps .full] []) = some (.ret (.s (.bool true)) []))
    (h16 : evl (envV A) (.call 69 [.sl 3 ys .imm] []) = some (.ret (.sl 3 qs .full) [])) (h17 : evl (envV A) (.call 70 [.sl 3 ys .imm] []) = some (.ret (.sl 3 qs .full) []))
    (h18 : evl (envV A) (.call 66 [.sl 3 qs .full, .sl 3 qs .full] []) = some (.ret (.s (.bool true)) []))
    (s1 : A.seq a a = true) (s2 : A.seq c c = true) (e1 : ps.length = k) (e2 : qs.length = k2) (e3 : ys.length = m) :
    evl (envV A) (.call 12 [.sl 3 xs .imm, .sl 3 ys .imm, .s (.string nm)] []) = some (.ret (.s (.bool true)) []) := by
  unfold stAT stATe at h6
  cases st
  ·
    rw [evl_fn (envV A) 12 _ _ (fn := Try.f12) (c := bd12) (lv := lvF12) rfl rfl rfl rfl rfl rfl]
    have hnle := hA.nleE; have hneq := hA.neqE
    have klt := hA.lt; have kle := hA.le; have keq := hA.eq; have knle := hA.nle; have kneq := hA.neq
    rw [lp_split (lpOf (envV A) 12 bd12) 7]
    generalize lpOf (envV A) 12 bd12 7 = L7 at e0 e1 e2 e3 h0 h1 h2 h3 h4 h5 h6 h7 h8 h9 h10 h11 h12 h13 h14 h15 h16 h17 h18 s1 s2 ⊢
    generalize lpOf (envV A) 12 bd12 = LP
    generalize evl (envV A) = E at e0 e1 e2 e3 h0 h1 h2 h3 h4 h5 h6 h7 h8 h9 h10 h11 h12 h13 h14 h15 h16 h17 h18 s1 s2 ⊢
    obtain ⟨aadd, asub, amul, arem, aquo, awr, ashr, aeq, alt, ale, aseq, aslt, acat, acut, asiz, aat, anle, aneq, afit⟩ := A
    simp only at hnle hneq
    subst hnle hneq
    simp only at klt kle keq knle kneq
    try simp only at h0 h1 h2 h3 h4 h5 h6 h7 h8 h9 h10 h11 h12 h13 h14 h15 h16 h17 h18 s1 s2
    conv at e0 => lhs; cbv
    conv at e1 => lhs; cbv
    conv at e2 => lhs; cbv
    conv at e3 => lhs; cbv
    cbv
    rewrite [h0]
    cbv
    rewrite [h1]
    cbv
    rewrite [keq (1) (0)]
    cbv
    rewrite [h2]
    cbv
    rewrite [keq (1) (0)]
    cbv
    rewrite [h3]
    cbv
    rewrite [h4]
    cbv
    rewrite [e0]
    cbv
    rewrite [h5]
    cbv
    rewrite [h6]
    cbv
    rewrite [h7]
    cbv
    rewrite [s1]
    cbv
    rewrite [s2]
    cbv
    rewrite [h8]
    cbv
    rewrite [h9]
    cbv
    rewrite [h10]
    cbv
    rewrite [h11]
    cbv
    rewrite [h12]
    cbv
    rewrite [h13]
    cbv
    rewrite [h14]
    cbv
    rewrite [h15]
    cbv
    rewrite [h16]
    cbv
    rewrite [h17]
    cbv
    rewrite [h18]
    cbv
  ·
    rw [evl_fn (envV A) 12 _ _ (fn := Try.f12) (c := bd12) (lv := lvF12) rfl rfl rfl rfl rfl rfl]
    have hnle := hA.nleE; have hneq := hA.neqE
    have klt := hA.lt; have kle := hA.le; have keq := hA.eq; have knle := hA.nle; have kneq := hA.neq
    rw [lp_split (lpOf (envV A) 12 bd12) 7]
    generalize lpOf (envV A) 12 bd12 7 = L7 at e0 e1 e2 e3 h0 h1 h2 h3 h4 h5 h6 h7 h8 h9 h10 h11 h12 h13 h14 h15 h16 h17 h18 s1 s2 ⊢
    generalize lpOf (envV A) 12 bd12 = LP
    generalize evl (envV A) = E at e0 e1 e2 e3 h0 h1 h2 h3 h4 h5 h6 h7 h8 h9 h10 h11 h12 h13 h14 h15 h16 h17 h18 s1 s2 ⊢
    obtain ⟨aadd, asub, amul, arem, aquo, awr, ashr, aeq, alt, ale, aseq, aslt, acat, acut, asiz, aat, anle, aneq, afit⟩ := A
    simp only at hnle hneq
    subst hnle hneq
    simp only at klt kle keq knle kneq
    try simp only at h0 h1 h2 h3 h4 h5 h6 h7 h8 h9 h10 h11 h12 h13 h14 h15 h16 h17 h18 s1 s2
    conv at e0 => lhs; cbv
    conv at e1 => lhs; cbv
    conv at e2 => lhs; cbv
    conv at e3 => lhs; cbv
    cbv
    rewrite [h0]
    cbv
    rewrite [h1]
    cbv
    rewrite [keq (1) (0)]
    cbv
    rewrite [h2]
    cbv
    rewrite [keq (1) (0)]
    cbv
    rewrite [h3]
    cbv
    rewrite [h4]
    cbv
    rewrite [e0]
    cbv
    rewrite [h5]
    cbv
    rewrite [h6]
    cbv
    rewrite [h7]
    cbv
    rewrite [s1]
    cbv
    rewrite [s2]
    cbv
    rewrite [h8]
    cbv
    rewrite [h9]
    cbv
    rewrite [h10]
    cbv
    rewrite [h11]
    cbv
    rewrite [h12]
    cbv
    rewrite [h13]
    cbv
    rewrite [h14]
    cbv
    rewrite [h15]
    cbv
    rewrite [h16]
    cbv
    rewrite [h17]
    cbv
    rewrite [h18]
    cbv
/-! the same, of lists that are handed over -/
def stDf (xs ys : List AV) (i : Nat) : St := { n := 26, k := 0, fr := [(0, .sl 3 xs .full), (1, .sl 3 ys .full), (5, .s (.int .i64 (.ofNat i)))], O := [] }
theorem lp_same_f {r : Option Res} (e1 : lget xs i = some (.agg [.s (.string a), .s (.string c), .s (.bool st)])) (e2 : Nat.ble (Nat.succ i) n = true) (e3 : xs.length = n) (e6 : 0 + i = i) (h2 : A.lt (.ofNat i) (.ofNat n) = true) (h3 : A.add .i64 (.ofNat i) 1 = .ofNat (Nat.succ i)) (s1 : A.seq a a = true) (s2 : A.seq c c = true)
    (hr : lpOf (envV A) 66 bd66 4 (stDf xs xs (Nat.succ i)) = r) : lpOf (envV A) 66 bd66 4 (stDf xs xs i) = r := by
  unfold stDf at hr ⊢
  cases st
  ·
    rw [lp_step (envV A) 66 (c0 := bd66) (lv := lvF66) rfl rfl]
    have hnle := hA.nleE; have hneq := hA.neqE
    have klt := hA.lt; have kle := hA.le; have keq := hA.eq; have knle := hA.nle; have kneq := hA.neq
    rw [lp_split (lpOf (envV A) 66 bd66) 4]
    generalize lpOf (envV A) 66 bd66 4 = L4 at e1 e2 e3 e6 h2 h3 hr s1 s2 ⊢
    generalize lpOf (envV A) 66 bd66 = LP
    generalize evl (envV A) = E at e1 e2 e3 e6 h2 h3 hr s1 s2 ⊢
    obtain ⟨aadd, asub, amul, arem, aquo, awr, ashr, aeq, alt, ale, aseq, aslt, acat, acut, asiz, aat, anle, aneq, afit⟩ := A
    simp only at hnle hneq
    subst hnle hneq
    simp only at klt kle keq knle kneq
    try simp only at h2 h3 hr s1 s2
    conv at e1 => lhs; cbv
    conv at e2 => lhs; cbv
    conv at e3 => lhs; cbv
    conv at e6 => lhs; cbv
    cbv
    rewrite [e3]
    cbv
    rewrite [h2]
    cbv
    rewrite [e3]
    cbv
    rewrite [e2]
    cbv
    rewrite [e6]
    cbv
    rewrite [e1]
    cbv
    rewrite [e3]
    cbv
    rewrite [e2]
    cbv
    rewrite [e6]
    cbv
    rewrite [e1]
    cbv
    rewrite [s1]
    cbv
    rewrite [s2]
    cbv
    rewrite [h3]
    cbv
    rewrite [hr]
    cbv
  ·
    rw [lp_step (envV A) 66 (c0 := bd66) (lv := lvF66) rfl rfl]
    have hnle := hA.nleE; have hneq := hA.neqE
    have klt := hA.lt; have kle := hA.le; have keq := hA.eq; have knle := hA.nle; have kneq := hA.neq
    rw [lp_split (lpOf (envV A) 66 bd66) 4]
    generalize lpOf (envV A) 66 bd66 4 = L4 at e1 e2 e3 e6 h2 h3 hr s1 s2 ⊢
    generalize lpOf (envV A) 66 bd66 = LP
    generalize evl (envV A) = E at e1 e2 e3 e6 h2 h3 hr s1 s2 ⊢
    obtain ⟨aadd, asub, amul, arem, aquo, awr, ashr, aeq, alt, ale, aseq, aslt, acat, acut, asiz, aat, anle, aneq, afit⟩ := A
    simp only at hnle hneq
    subst hnle hneq
    simp only at klt kle keq knle kneq
    try simp only at h2 h3 hr s1 s2
    conv at e1 => lhs; cbv
    conv at e2 => lhs; cbv
    conv at e3 => lhs; cbv
    conv at e6 => lhs; cbv
    cbv
    rewrite [e3]
    cbv
    rewrite [h2]
    cbv
    rewrite [e3]
    cbv
    rewrite [e2]
    cbv
    rewrite [e6]
    cbv
    rewrite [e1]
    cbv
    rewrite [e3]
    cbv
    rewrite [e2]
    cbv
    rewrite [e6]
    cbv
    rewrite [e1]
    cbv
    rewrite [s1]
    cbv
    rewrite [s2]
    cbv
    rewrite [h3]
    cbv
    rewrite [hr]
    cbv
theorem lp_same_fe (e3 : xs.length = n) (h2 : A.lt (.ofNat i) (.ofNat n) = false) : lpOf (envV A) 66 bd66 4 (stDf xs xs i) = some (.code (.exit 0) { n := 26, k := 0, fr := [(0, .sl 3 xs .full), (1, .sl 3 xs .full), (5, .s (.int .i64 (.ofNat i))), (14, .s (.bool false))], O := [] }) := by
  unfold stDf
  rw [lp_step (envV A) 66 (c0 := bd66) (lv := lvF66) rfl rfl]
  have hnle := hA.nleE; have hneq := hA.neqE
  have klt := hA.lt; have kle := hA.le; have keq := hA.eq; have knle := hA.nle; have kneq := hA.neq
  generalize lpOf (envV A) 66 bd66 = LP
  generalize evl (envV A) = E at e3 h2 ⊢
  obtain ⟨aadd, asub, amul, arem, aquo, awr, ashr, aeq, alt, ale, aseq, aslt, acat, acut, asiz, aat, anle, aneq, afit⟩ := A
  simp only at hnle hneq
  subst hnle hneq
  simp only at klt kle keq knle kneq
  try simp only at h2
  conv at e3 => lhs; cbv
  cbv
  rewrite [e3]
  cbv
  rewrite [h2]
  cbv
theorem eq_same_f (e3 : xs.length = n) (h0 : A.eq (.ofNat n) (.ofNat n) = true) (h1 : lpOf (envV A) 66 bd66 4 { n := 26, k := 0, fr := [(0, .sl 3 xs .full), (1, .sl 3 xs .full), (5, .s (.int .i64 0))], O := [] } = some (.code (.exit 0) { n := 26, k := 0, fr := [(0, .sl 3 xs .full), (1, .sl 3 xs .full), (5, .s (.int .i64 (.ofNat n))), (14, .s (.bool false))], O := [] })) :
    evl (envV A) (.call 66 [.sl 3 xs .full, .sl 3 xs .full] []) = some (.ret (.s (.bool true)) []) := by
  rw [evl_fn (envV A) 66 _ _ (fn := Try.f66) (c := bd66) (lv := lvF66) rfl rfl rfl rfl rfl rfl]
  have hnle := hA.nleE; have hneq := hA.neqE
  have klt := hA.lt; have kle := hA.le; have keq := hA.eq; have knle := hA.nle; have kneq := hA.neq
  rw [lp_split (lpOf (envV A) 66 bd66) 4]
  generalize lpOf (envV A) 66 bd66 4 = L4 at e3 h0 h1 ⊢
  generalize lpOf (envV A) 66 bd66 = LP
  generalize evl (envV A) = E at e3 h0 h1 ⊢
  obtain ⟨aadd, asub, amul, arem, aquo, awr, ashr, aeq, alt, ale, aseq, aslt, acat, acut, asiz, aat, anle, aneq, afit⟩ := A
  simp only at hnle hneq
  subst hnle hneq
  simp only at klt kle keq knle kneq
  try simp only at h0 h1
  conv at e3 => lhs; cbv
  cbv
  rewrite [e3]
  cbv
  rewrite [h0]
  cbv
  rewrite [h1]
  cbv
end
end Go.Va
