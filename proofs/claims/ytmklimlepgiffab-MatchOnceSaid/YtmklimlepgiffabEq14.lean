/- The functions that the statement reaches, by equations: no statement of its own. -/
import Derived.Test.YtmklimlepgiffabEq13
set_option linter.unusedVariables false
set_option linter.unusedSimpArgs false
set_option linter.unusedSectionVars false
namespace Go.Va
open Go.Proofs
set_option maxRecDepth 100000
set_option maxHeartbeats 4000000
def stMt (olds ws out : List AV) (i : Nat) : St := { n := 111, k := 0, fr := [(0, .sl 2 olds .imm), (5, .s (.bool true)), (6, .sl 6 ws .full), (8, .sl 2 out .full), (9, .s (.int .i64 (.ofNat i)))], O := [] }
def stMte (olds ws out : List AV) (i : Nat) : St := { n := 111, k := 0, fr := [(0, .sl 2 olds .imm), (5, .s (.bool true)), (6, .sl 6 ws .full), (8, .sl 2 out .full), (9, .s (.int .i64 (.ofNat i))), (31, .s (.bool false))], O := [] }
def stMtr : St := { n := 111, k := 0, fr := [(4, .s (.bool true))], O := [] }
def stNi (xs : List AV) (i : Nat) : St := { n := 26, k := 0, fr := [(0, .sl 1 xs .imm), (1, .sl 1 xs .ro), (5, .s (.int .i64 (.ofNat i)))], O := [] }
def stNie (xs : List AV) (i : Nat) : St := { n := 26, k := 0, fr := [(0, .sl 1 xs .imm), (1, .sl 1 xs .ro), (5, .s (.int .i64 (.ofNat i))), (14, .s (.bool false))], O := [] }
section
variable (A : Ar) (hA : ArOk A) (olds xs ws vs take kept gone out out2 : List AV) (n m i k u t c d : Nat) (a b : ByteArray) (z : Int)
include hA
theorem eq_wn_few (h1 : evl (envV A) (.call 20 [.sl 3 xs .imm] []) = some (.ret (.s (.int .i64 0)) [])) (h3 : A.eq 0 0 = true) : evl (envV A) (.call 45 [.sl 3 xs .imm] []) = some (.ret (.tup [.sl 6 [] .full, .s (.bool false)]) []) := by
  rw [evl_fn (envV A) 45 _ _ (fn := Try.f45) (c := bd45) (lv := lvF45) rfl rfl rfl rfl rfl rfl]
  have hnle := hA.nleE; have hneq := hA.neqE
  generalize lpOf (envV A) 45 bd45 = LP
  generalize evl (envV A) = E at h1 h3 ⊢
  obtain ⟨aadd, asub, amul, arem, aquo, awr, ashr, aeq, alt, ale, aseq, aslt, acat, acut, asiz, aat, anle, aneq, afit⟩ := A
  simp only at hnle hneq
  subst hnle hneq
  try simp only at h1 h3
  cbv
  rewrite [h1]
  cbv
  rewrite [h3]
  cbv
theorem eq_wn (e1 : ws.length = n) (e2 : Nat.ble n n = true) (e3 : ws.take n = ws) (e4 : 0 + n = n) (e5 : lcut ws 0 n = ws) (h1 : evl (envV A) (.call 20 [.sl 3 xs .imm] []) = some (.ret (.s (.int .i64 1)) [])) (h3 : A.eq 1 0 = false)
    (h4 : evl (envV A) (.call 34 [.sl 3 xs .imm] []) = some (.ret (.tup [.sl 6 ws .full, .s .nilIface]) [])) :
    evl (envV A) (.call 45 [.sl 3 xs .imm] []) = some (.ret (.tup [.sl 6 ws .full, .s (.bool true)]) []) := by
  rw [evl_fn (envV A) 45 _ _ (fn := Try.f45) (c := bd45) (lv := lvF45) rfl rfl rfl rfl rfl rfl]
  have hnle := hA.nleE; have hneq := hA.neqE
  generalize lpOf (envV A) 45 bd45 = LP
  generalize evl (envV A) = E at e1 e2 e3 e4 e5 h1 h3 h4 ⊢
  obtain ⟨aadd, asub, amul, arem, aquo, awr, ashr, aeq, alt, ale, aseq, aslt, acat, acut, asiz, aat, anle, aneq, afit⟩ := A
  simp only at hnle hneq
  subst hnle hneq
  try simp only at h1 h3 h4
  conv at e1 => lhs; cbv
  conv at e2 => lhs; cbv
  conv at e3 => lhs; cbv
  conv at e4 => lhs; cbv
  conv at e5 => lhs; cbv
  cbv
  rewrite [h1]
  cbv
  rewrite [h3]
  cbv
  rewrite [h4]
  cbv
  rewrite [e1]
  cbv
  rewrite [e2]
  cbv
  rewrite [e3]
  cbv
theorem eq_wn_no (h1 : evl (envV A) (.call 20 [.sl 3 xs .imm] []) = some (.ret (.s (.int .i64 1)) [])) (h3 : A.eq 1 0 = false)
    (h4 : evl (envV A) (.call 34 [.sl 3 xs .imm] []) = some (.ret (.tup [.sl 6 [] .full, .s (.iface 39 (.int .i64 z))]) [])) :
    evl (envV A) (.call 45 [.sl 3 xs .imm] []) = some (.ret (.tup [.sl 6 [] .full, .s (.bool false)]) []) := by
  rw [evl_fn (envV A) 45 _ _ (fn := Try.f45) (c := bd45) (lv := lvF45) rfl rfl rfl rfl rfl rfl]
  have hnle := hA.nleE; have hneq := hA.neqE
  generalize lpOf (envV A) 45 bd45 = LP
  generalize evl (envV A) = E at h1 h3 h4 ⊢
  obtain ⟨aadd, asub, amul, arem, aquo, awr, ashr, aeq, alt, ale, aseq, aslt, acat, acut, asiz, aat, anle, aneq, afit⟩ := A
  simp only at hnle hneq
  subst hnle hneq
  try simp only at h1 h3 h4
  cbv
  rewrite [h1]
  cbv
  rewrite [h3]
  cbv
  rewrite [h4]
  cbv
theorem lp_ni {r : Option Res} (e0 : xs.length = n) (e1 : lget xs i = some (.s (.int .i64 z))) (e2 : Nat.ble (Nat.succ i) n = true) (h1 : A.lt (.ofNat i) (.ofNat n) = true) (h2 : A.add .i64 (.ofNat i) 1 = .ofNat (Nat.succ i)) (h3 : A.eq z z = true)
    (hr : lpOf (envV A) 48 bd48 4 (stNi xs (Nat.succ i)) = r) : lpOf (envV A) 48 bd48 4 (stNi xs i) = r := by
  unfold stNi at hr ⊢
  rw [lp_step (envV A) 48 (c0 := bd48) (lv := lvF48) rfl rfl]
  have hnle := hA.nleE; have hneq := hA.neqE
  rw [lp_split (lpOf (envV A) 48 bd48) 4]
  generalize lpOf (envV A) 48 bd48 4 = L4 at e0 e1 e2 h1 h2 h3 hr ⊢
  generalize lpOf (envV A) 48 bd48 = LP
  generalize evl (envV A) = E at e0 e1 e2 h1 h2 h3 hr ⊢
  obtain ⟨aadd, asub, amul, arem, aquo, awr, ashr, aeq, alt, ale, aseq, aslt, acat, acut, asiz, aat, anle, aneq, afit⟩ := A
  simp only at hnle hneq
  subst hnle hneq
  try simp only at h1 h2 h3 hr
  conv at e0 => lhs; cbv
  conv at e1 => lhs; cbv
  conv at e2 => lhs; cbv
  cbv
  rewrite [e0]
  cbv
  rewrite [h1]
  cbv
  rewrite [e1]
  cbv
  rewrite [e1]
  cbv
  rewrite [h3]
  cbv
  rewrite [h2]
  cbv
  rewrite [hr]
  cbv
theorem lp_ni_end (e0 : xs.length = n) (h1 : A.lt (.ofNat i) (.ofNat n) = false) : lpOf (envV A) 48 bd48 4 (stNi xs i) = some (.code (.exit 0) (stNie xs i)) := by
  unfold stNi stNie
  rw [lp_step (envV A) 48 (c0 := bd48) (lv := lvF48) rfl rfl]
  have hnle := hA.nleE; have hneq := hA.neqE
  generalize lpOf (envV A) 48 bd48 = LP
  generalize evl (envV A) = E at e0 h1 ⊢
  obtain ⟨aadd, asub, amul, arem, aquo, awr, ashr, aeq, alt, ale, aseq, aslt, acat, acut, asiz, aat, anle, aneq, afit⟩ := A
  simp only at hnle hneq
  subst hnle hneq
  try simp only at h1
  conv at e0 => lhs; cbv
  cbv
  rewrite [e0]
  cbv
  rewrite [h1]
  cbv
theorem eq_nints (e0 : xs.length = n) (h1 : A.eq (.ofNat n) (.ofNat n) = true) (h2 : lpOf (envV A) 48 bd48 4 (stNi xs 0) = some (.code (.exit 0) (stNie xs i))) :
    evl (envV A) (.call 48 [.sl 1 xs .imm, .sl 1 xs .ro] []) = some (.ret (.s (.bool true)) []) := by
  unfold stNi stNie at h2
  simp only [show Int.ofNat 0 = 0 from rfl] at h2
  rw [evl_fn (envV A) 48 _ _ (fn := Try.f48) (c := bd48) (lv := lvF48) rfl rfl rfl rfl rfl rfl]
  have hnle := hA.nleE; have hneq := hA.neqE
  rw [lp_split (lpOf (envV A) 48 bd48) 4]
  generalize lpOf (envV A) 48 bd48 4 = L4 at e0 h1 h2 ⊢
  generalize lpOf (envV A) 48 bd48 = LP
  generalize evl (envV A) = E at e0 h1 h2 ⊢
  obtain ⟨aadd, asub, amul, arem, aquo, awr, ashr, aeq, alt, ale, aseq, aslt, acat, acut, asiz, aat, anle, aneq, afit⟩ := A
  simp only at hnle hneq
  subst hnle hneq
  try simp only at h1 h2
  conv at e0 => lhs; cbv
  cbv
  rewrite [e0]
  cbv
  rewrite [h1]
  cbv
  rewrite [h2]
  cbv
section
variable (e0 : olds.length = m) (e1 : lget olds i = some (.agg [.s (.string a), .s (.string b)])) (e2 : Nat.ble (Nat.succ i) m = true) (h1 : A.lt (.ofNat i) (.ofNat m) = true)
include e0 e1 e2 h1
theorem lp_mt_x1 (h2 : A.lt 100 (.ofNat (A.siz a)) = true) : lpOf (envV A) 10 bd10 7 (stMt olds ws out i) = some (.code .ret stMtr) := by
  unfold stMt stMtr
  rw [lp_step (envV A) 10 (c0 := bd10) (lv := lvF10) rfl rfl]
  have hnle := hA.nleE; have hneq := hA.neqE
  generalize lpOf (envV A) 10 bd10 = LP
  generalize evl (envV A) = E at e0 e1 e2 h1 h2 ⊢
  obtain ⟨aadd, asub, amul, arem, aquo, awr, ashr, aeq, alt, ale, aseq, aslt, acat, acut, asiz, aat, anle, aneq, afit⟩ := A
  simp only at hnle hneq
  subst hnle hneq
  try simp only at h1 h2
  conv at e0 => lhs; cbv
  conv at e1 => lhs; cbv
  conv at e2 => lhs; cbv
  cbv
  rewrite [e0]
  cbv
  rewrite [h1]
  cbv
  rewrite [e1]
  cbv
  rewrite [h2]
  cbv
theorem lp_mt_x2 (h2 : A.lt 100 (.ofNat (A.siz a)) = false) (h3 : A.lt 100 (.ofNat (A.siz b)) = true) : lpOf (envV A) 10 bd10 7 (stMt olds ws out i) = some (.code .ret stMtr) := by
  unfold stMt stMtr
  rw [lp_step (envV A) 10 (c0 := bd10) (lv := lvF10) rfl rfl]
  have hnle := hA.nleE; have hneq := hA.neqE
  generalize lpOf (envV A) 10 bd10 = LP
  generalize evl (envV A) = E at e0 e1 e2 h1 h2 h3 ⊢
  obtain ⟨aadd, asub, amul, arem, aquo, awr, ashr, aeq, alt, ale, aseq, aslt, acat, acut, asiz, aat, anle, aneq, afit⟩ := A
  simp only at hnle hneq
  subst hnle hneq
  try simp only at h1 h2 h3
  conv at e0 => lhs; cbv
  conv at e1 => lhs; cbv
  conv at e2 => lhs; cbv
  cbv
  rewrite [e0]
  cbv
  rewrite [h1]
  cbv
  rewrite [e1]
  cbv
  rewrite [h2]
  cbv
  rewrite [e1]
  cbv
  rewrite [h3]
  cbv
variable (h2 : A.lt 100 (.ofNat (A.siz a)) = false) (h3 : A.lt 100 (.ofNat (A.siz b)) = false)
include h2 h3
theorem lp_mt_x3 (h4 : A.seq a ⟨#[]⟩ = true) (h5 : A.seq b ⟨#[]⟩ = false) : lpOf (envV A) 10 bd10 7 (stMt olds ws out i) = some (.code .ret stMtr) := by
  unfold stMt stMtr
  rw [lp_step (envV A) 10 (c0 := bd10) (lv := lvF10) rfl rfl]
  have hnle := hA.nleE; have hneq := hA.neqE
  generalize lpOf (envV A) 10 bd10 = LP
  generalize evl (envV A) = E at e0 e1 e2 h1 h2 h3 h4 h5 ⊢
  obtain ⟨aadd, asub, amul, arem, aquo, awr, ashr, aeq, alt, ale, aseq, aslt, acat, acut, asiz, aat, anle, aneq, afit⟩ := A
  simp only at hnle hneq
  subst hnle hneq
  try simp only at h1 h2 h3 h4 h5
  conv at e0 => lhs; cbv
  conv at e1 => lhs; cbv
  conv at e2 => lhs; cbv
  cbv
  rewrite [e0]
  cbv
  rewrite [h1]
  cbv
  rewrite [e1]
  cbv
  rewrite [h2]
  cbv
  rewrite [e1]
  cbv
  rewrite [h3]
  cbv
  rewrite [e1]
  cbv
  rewrite [h4]
  cbv
  rewrite [e1]
  cbv
  rewrite [h5]
  cbv
variable (e3 : out.length = u) (e4 : out ++ [.agg [.s (.string a), .s (.string b)]] = out2) (e5 : Nat.beq u u = true) (h6 : A.add .i64 (.ofNat i) 1 = .ofNat (Nat.succ i)) (h7 : A.fit (Nat.succ u) 32 = true)
include e3 e4 e5 h6 h7
theorem lp_mt_on1 {r : Option Res} (h4 : A.seq a ⟨#[]⟩ = false) (hr : lpOf (envV A) 10 bd10 7 (stMt olds ws out2 (Nat.succ i)) = r) : lpOf (envV A) 10 bd10 7 (stMt olds ws out i) = r := by
  unfold stMt at hr ⊢
  rw [lp_step (envV A) 10 (c0 := bd10) (lv := lvF10) rfl rfl]
  have hnle := hA.nleE; have hneq := hA.neqE
  rw [lp_split (lpOf (envV A) 10 bd10) 7]
  generalize lpOf (envV A) 10 bd10 7 = L7 at e0 e1 e2 e3 e4 e5 h1 h2 h3 h4 h6 h7 hr ⊢
  generalize lpOf (envV A) 10 bd10 = LP
  generalize evl (envV A) = E at e0 e1 e2 e3 e4 e5 h1 h2 h3 h4 h6 h7 hr ⊢
  obtain ⟨aadd, asub, amul, arem, aquo, awr, ashr, aeq, alt, ale, aseq, aslt, acat, acut, asiz, aat, anle, aneq, afit⟩ := A
  simp only at hnle hneq
  subst hnle hneq
  try simp only at h1 h2 h3 h4 h6 h7 hr
  conv at e0 => lhs; cbv
  conv at e1 => lhs; cbv
  conv at e2 => lhs; cbv
  conv at e3 => lhs; cbv
  conv at e4 => lhs; cbv
  conv at e5 => lhs; cbv
  cbv
  rewrite [e0]
  cbv
  rewrite [h1]
  cbv
  rewrite [e1]
  cbv
  rewrite [h2]
  cbv
  rewrite [e1]
  cbv
  rewrite [h3]
  cbv
  rewrite [e1]
  cbv
  rewrite [h4]
  cbv
  rewrite [e1]
  cbv
  rewrite [e1]
  cbv
  rewrite [e3]
  cbv
  rewrite [e4]
  cbv
  rewrite [e5]
  cbv
  rewrite [h7]
  cbv
  rewrite [h6]
  cbv
  rewrite [hr]
  cbv
theorem lp_mt_on2 {r : Option Res} (h4 : A.seq a ⟨#[]⟩ = true) (h5 : A.seq b ⟨#[]⟩ = true) (hr : lpOf (envV A) 10 bd10 7 (stMt olds ws out2 (Nat.succ i)) = r) : lpOf (envV A) 10 bd10 7 (stMt olds ws out i) = r := by
  unfold stMt at hr ⊢
  rw [lp_step (envV A) 10 (c0 := bd10) (lv := lvF10) rfl rfl]
  have hnle := hA.nleE; have hneq := hA.neqE
  rw [lp_split (lpOf (envV A) 10 bd10) 7]
  generalize lpOf (envV A) 10 bd10 7 = L7 at e0 e1 e2 e3 e4 e5 h1 h2 h3 h4 h5 h6 h7 hr ⊢
  generalize lpOf (envV A) 10 bd10 = LP
  generalize evl (envV A) = E at e0 e1 e2 e3 e4 e5 h1 h2 h3 h4 h5 h6 h7 hr ⊢
  obtain ⟨aadd, asub, amul, arem, aquo, awr, ashr, aeq, alt, ale, aseq, aslt, acat, acut, asiz, aat, anle, aneq, afit⟩ := A
  simp only at hnle hneq
  subst hnle hneq
  try simp only at h1 h2 h3 h4 h5 h6 h7 hr
  conv at e0 => lhs; cbv
  conv at e1 => lhs; cbv
  conv at e2 => lhs; cbv
  conv at e3 => lhs; cbv
  conv at e4 => lhs; cbv
  conv at e5 => lhs; cbv
  cbv
  rewrite [e0]
  cbv
  rewrite [h1]
  cbv
  rewrite [e1]
  cbv
  rewrite [h2]
  cbv
  rewrite [e1]
  cbv
  rewrite [h3]
  cbv
  rewrite [e1]
  cbv
  rewrite [h4]
  cbv
  rewrite [e1]
  cbv
  rewrite [h5]
  cbv
  rewrite [e1]
  cbv
  rewrite [e1]
  cbv
  rewrite [e3]
  cbv
  rewrite [e4]
  cbv
  rewrite [e5]
  cbv
  rewrite [h7]
  cbv
  rewrite [h6]
  cbv
  rewrite [hr]
  cbv
end
theorem lp_mt_end (e0 : olds.length = m) (h1 : A.lt (.ofNat i) (.ofNat m) = false) : lpOf (envV A) 10 bd10 7 (stMt olds ws out i) = some (.code (.exit 0) (stMte olds ws out i)) := by
  unfold stMt stMte
  rw [lp_step (envV A) 10 (c0 := bd10) (lv := lvF10) rfl rfl]
  have hnle := hA.nleE; have hneq := hA.neqE
  generalize lpOf (envV A) 10 bd10 = LP
  generalize evl (envV A) = E at e0 h1 ⊢
  obtain ⟨aadd, asub, amul, arem, aquo, awr, ashr, aeq, alt, ale, aseq, aslt, acat, acut, asiz, aat, anle, aneq, afit⟩ := A
  simp only at hnle hneq
  subst hnle hneq
  try simp only at h1
  conv at e0 => lhs; cbv
  cbv
  rewrite [e0]
  cbv
  rewrite [h1]
  cbv
section
variable (h0 : evl (envV A) (.call 44 [] []) = some (.ret (.s (.bool true)) []))
include h0
theorem eq_mt_no (h1 : evl (envV A) (.call 45 [.sl 3 xs .imm] []) = some (.ret (.tup [.sl 6 [] .full, .s (.bool false)]) [])) :
    evl (envV A) (.call 10 [.sl 2 olds .imm, .sl 3 xs .imm] []) = some (.ret (.s (.bool true)) []) := by
  rw [evl_fn (envV A) 10 _ _ (fn := Try.f10) (c := bd10) (lv := lvF10) rfl rfl rfl rfl rfl rfl]
  have hnle := hA.nleE; have hneq := hA.neqE
  generalize lpOf (envV A) 10 bd10 = LP
  generalize evl (envV A) = E at h0 h1 ⊢
  obtain ⟨aadd, asub, amul, arem, aquo, awr, ashr, aeq, alt, ale, aseq, aslt, acat, acut, asiz, aat, anle, aneq, afit⟩ := A
  simp only at hnle hneq
  subst hnle hneq
  try simp only at h0 h1
  cbv
  rewrite [h0]
  cbv
  rewrite [h1]
  cbv
variable (e0 : olds.length = m) (h1 : evl (envV A) (.call 45 [.sl 3 xs .imm] []) = some (.ret (.tup [.sl 6 ws .full, .s (.bool true)]) []))
include e0 h1
theorem eq_mt_many (h2 : A.lt 30 (.ofNat m) = true) : evl (envV A) (.call 10 [.sl 2 olds .imm, .sl 3 xs .imm] []) = some (.ret (.s (.bool true)) []) := by
  rw [evl_fn (envV A) 10 _ _ (fn := Try.f10) (c := bd10) (lv := lvF10) rfl rfl rfl rfl rfl rfl]
  have hnle := hA.nleE; have hneq := hA.neqE
  generalize lpOf (envV A) 10 bd10 = LP
  generalize evl (envV A) = E at e0 h0 h1 h2 ⊢
  obtain ⟨aadd, asub, amul, arem, aquo, awr, ashr, aeq, alt, ale, aseq, aslt, acat, acut, asiz, aat, anle, aneq, afit⟩ := A
  simp only at hnle hneq
  subst hnle hneq
  try simp only at h0 h1 h2
  conv at e0 => lhs; cbv
  cbv
  rewrite [h0]
  cbv
  rewrite [h1]
  cbv
  rewrite [e0]
  cbv
  rewrite [h2]
  cbv
theorem eq_mt_x (h2 : A.lt 30 (.ofNat m) = false) (h3 : lpOf (envV A) 10 bd10 7 (stMt olds ws [] 0) = some (.code .ret stMtr)) : evl (envV A) (.call 10 [.sl 2 olds .imm, .sl 3 xs .imm] []) = some (.ret (.s (.bool true)) []) := by
  unfold stMt stMtr at h3
  simp only [show Int.ofNat 0 = 0 from rfl] at h3
  rw [evl_fn (envV A) 10 _ _ (fn := Try.f10) (c := bd10) (lv := lvF10) rfl rfl rfl rfl rfl rfl]
  have hnle := hA.nleE; have hneq := hA.neqE
  rw [lp_split (lpOf (envV A) 10 bd10) 7]
  generalize lpOf (envV A) 10 bd10 7 = L7 at e0 h0 h1 h2 h3 ⊢
  generalize lpOf (envV A) 10 bd10 = LP
  generalize evl (envV A) = E at e0 h0 h1 h2 h3 ⊢
  obtain ⟨aadd, asub, amul, arem, aquo, awr, ashr, aeq, alt, ale, aseq, aslt, acat, acut, asiz, aat, anle, aneq, afit⟩ := A
  simp only at hnle hneq
  subst hnle hneq
  try simp only at h0 h1 h2 h3
  conv at e0 => lhs; cbv
  cbv
  rewrite [h0]
  cbv
  rewrite [h1]
  cbv
  rewrite [e0]
  cbv
  rewrite [h2]
  cbv
  rewrite [h3]
  cbv
theorem eq_mt (e1 : ws.length = n) (e2 : 0 + n = n) (e3 : lcut ws 0 n = ws) (e4 : Nat.ble n n = true) (e5 : ws.take n = ws) (e6 : out.length = m) (e7 : 0 + m = m) (e8 : lcut out 0 m = out) (e9 : Nat.ble m m = true) (ea : take.length = t) (eb : 0 + t = t) (ec : lcut take 0 t = take) (ed : Nat.ble t t = true) (ee : kept.length = k) (ef : 0 + k = k) (eg : lcut kept 0 k = kept) (eh : Nat.ble k k = true) (ei : gone.length = u) (ej : 0 + u = u) (ek : lcut gone 0 u = gone) (el : Nat.ble u u = true)
    (h2 : A.lt 30 (.ofNat m) = false) (h3 : lpOf (envV A) 10 bd10 7 (stMt olds ws [] 0) = some (.code (.exit 0) (stMte olds ws out i)))
    (h4 : evl (envV A) (.call 46 [.sl 2 olds .imm, .sl 6 ws .ro] []) = some (.ret (.agg [.sl 1 take .imm, .sl 1 kept .imm, .sl 1 gone .imm]) []))
    (h5 : evl (envV A) (.call 36 [.sl 6 ws .ro] []) = some (.ret (.sl 6 vs .full) []))
    (h6 : evl (envV A) (.call 47 [.sl 2 out .ro, .sl 6 vs .full] []) = some (.ret (.tup [.sl 1 take .full, .sl 1 kept .full, .sl 1 gone .full]) []))
    (h7 : evl (envV A) (.call 48 [.sl 1 take .imm, .sl 1 take .ro] []) = some (.ret (.s (.bool true)) [])) (h8 : evl (envV A) (.call 48 [.sl 1 kept .imm, .sl 1 kept .ro] []) = some (.ret (.s (.bool true)) [])) (h9 : evl (envV A) (.call 48 [.sl 1 gone .imm, .sl 1 gone .ro] []) = some (.ret (.s (.bool true)) [])) :
    evl (envV A) (.call 10 [.sl 2 olds .imm, .sl 3 xs .imm] []) = some (.ret (.s (.bool true)) []) := by
  unfold stMt stMte at h3
  simp only [show Int.ofNat 0 = 0 from rfl] at h3
  rw [evl_fn (envV A) 10 _ _ (fn := Try.f10) (c := bd10) (lv := lvF10) rfl rfl rfl rfl rfl rfl]
  have hnle := hA.nleE; have hneq := hA.neqE
  rw [lp_split (lpOf (envV A) 10 bd10) 7]
  generalize lpOf (envV A) 10 bd10 7 = L7 at e0 e1 e2 e3 e4 e5 e6 e7 e8 e9 ea eb ec ed ee ef eg eh ei ej ek el h0 h1 h2 h3 h4 h5 h6 h7 h8 h9 ⊢
  generalize lpOf (envV A) 10 bd10 = LP
  generalize evl (envV A) = E at e0 e1 e2 e3 e4 e5 e6 e7 e8 e9 ea eb ec ed ee ef eg eh ei ej ek el h0 h1 h2 h3 h4 h5 h6 h7 h8 h9 ⊢
  obtain ⟨aadd, asub, amul, arem, aquo, awr, ashr, aeq, alt, ale, aseq, aslt, acat, acut, asiz, aat, anle, aneq, afit⟩ := A
  simp only at hnle hneq
  subst hnle hneq
  try simp only at h0 h1 h2 h3 h4 h5 h6 h7 h8 h9
  conv at e0 => lhs; cbv
  conv at e1 => lhs; cbv
  conv at e2 => lhs; cbv
  conv at e3 => lhs; cbv
  conv at e4 => lhs; cbv
  conv at e5 => lhs; cbv
  conv at e6 => lhs; cbv
  conv at e7 => lhs; cbv
  conv at e8 => lhs; cbv
  conv at e9 => lhs; cbv
  conv at ea => lhs; cbv
  conv at eb => lhs; cbv
  conv at ec => lhs; cbv
  conv at ed => lhs; cbv
  conv at ee => lhs; cbv
  conv at ef => lhs; cbv
  conv at eg => lhs; cbv
  conv at eh => lhs; cbv
  conv at ei => lhs; cbv
  conv at ej => lhs; cbv
  conv at ek => lhs; cbv
  conv at el => lhs; cbv
  cbv
  rewrite [h0]
  cbv
  rewrite [h1]
  cbv
  rewrite [e0]
  cbv
  rewrite [h2]
  cbv
  rewrite [h3]
  cbv
  rewrite [e1]
  cbv
  rewrite [e2]
  cbv
  rewrite [e3]
  cbv
  rewrite [e4]
  cbv
  rewrite [h4]
  cbv
  rewrite [e1]
  cbv
  rewrite [e2]
  cbv
  rewrite [e3]
  cbv
  rewrite [e4]
  cbv
  rewrite [e6]
  cbv
  rewrite [h5]
  cbv
  rewrite [e6]
  cbv
  rewrite [e7]
  cbv
  rewrite [e8]
  cbv
  rewrite [e9]
  cbv
  rewrite [h6]
  cbv
  rewrite [ea]
  cbv
  rewrite [eb]
  cbv
  rewrite [ec]
  cbv
  rewrite [ed]
  cbv
  rewrite [h7]
  cbv
  rewrite [ee]
  cbv
  rewrite [ef]
  cbv
  rewrite [eg]
  cbv
  rewrite [eh]
  cbv
  rewrite [h8]
  cbv
  rewrite [ei]
  cbv
  rewrite [ej]
  cbv
  rewrite [ek]
  cbv
  rewrite [el]
  cbv
  rewrite [h9]
  cbv
end
end
theorem s_law16_up : evl (envV realAr) (.call 44 [] []) = some (.ret (.s (.bool true)) []) := evl_of (n := 100) (by kernel_rfl)
end Go.Va
namespace Go.Va
open Go.Proofs
set_option maxRecDepth 100000
theorem cut0W (x : List WT) : lcut (wtsA x) 0 x.length = wtsA x := by rw [wtsA_map]; exact mcut0 wtA x rfl
theorem tkW (x : List WT) : (wtsA x).take x.length = wtsA x := List.take_of_length_le (by rw [wts_len]; exact Nat.le_refl _)
theorem tkM {α : Type} (f : α → AV) (x : List α) : (x.map f).take x.length = x.map f := List.take_of_length_le (by rw [List.length_map]; exact Nat.le_refl _)
/-- the document's match -/
theorem s_rOf (olds : List OlT) (ws : List WT) (hn : olds.length ≤ 900) (hw : ws.length ≤ 1000) : evl (envV realAr) (.call 47 [.sl 2 (olds.map olA) .ro, .sl 6 (wtsA ws) .full] []) = some (.ret (.tup [.sl 1 ((mRun olds ws (List.range olds.length, [], [])).2.1.map zA) .full, .sl 1 ((mRun olds ws (List.range olds.length, [], [])).2.2.map natA) .full, .sl 1 ((mRun olds ws (List.range olds.length, [], [])).1.map natA) .full]) []) := by
  have h1 := lp_r3I .full rfl olds (by omega) (wtsA ws) olds.length 0 rfl
  obtain ⟨h2, hs⟩ := lp_r9I .full rfl olds ws (by omega) hw ws [] (List.range olds.length, [], []) rfl (List.Sublist.refl _) rfl (by simp; omega)
  obtain ⟨l1, l2⟩ := mRun_len .ro (.inl rfl) olds ws (List.range olds.length, [], [])
  simp only [List.length_nil, List.length_range, Nat.zero_add, Nat.add_zero] at l1 l2
  simp only [List.map_nil] at h2
  generalize mRun olds ws (List.range olds.length, [], []) = s at h2 hs l1 l2 ⊢
  have h3 := lp_r31I .full rfl olds (by omega) (s.2.1.map zA) (s.2.2.map natA) s.1 olds.length 0 s.1 [] (by omega) (Tail.zero (List.Pairwise.sublist hs List.pairwise_lt_range)) (fun j hj => by have := hs.subset hj; simpa using this) (by simp; omega)
  rw [List.nil_append] at h3
  exact eq_r16 .full rfl (olds := olds.map olA) (ws := wtsA ws) (left := mkB olds.length []) (left2 := mkB olds.length (List.range olds.length)) (left3 := mkB olds.length s.1) (take := s.2.1.map zA) (kept := s.2.2.map natA) (gone := s.1.map natA) (n := olds.length) (i := olds.length) (j := ws.length) (k := olds.length)
    (e0 := mlen olA olds) (e1 := hbeq _) (eb := mkB_nil _) (h0 := hfit (by omega)) (h1 := h1) (h2 := h2) (h3 := h3)
section
variable {α : Type} (f : α → AV) (g : α → Int) (hf : ∀ a, f a = .s (.int .i64 (g a)))
include hf
theorem lp_nintsI (l : List α) (hl : l.length ≤ 2000) : ∀ (m i : Nat), m + i = l.length → lpOf (envV realAr) 48 bd48 4 (stNi (l.map f) i) = some (.code (.exit 0) (stNie (l.map f) l.length))
  | 0, i, h => by
    have : i = l.length := by omega
    subst this
    exact lp_ni_end realAr realAr_ok (xs := l.map f) (n := l.length) (i := l.length) (e0 := mlen f l) (h1 := nlt_f (Nat.le_refl _))
  | m + 1, i, h => by
    have hi : i < l.length := by omega
    have hg := mget f l hi
    rw [hf] at hg
    have hlt : realAr.lt (.ofNat i) (.ofNat l.length) = true := nlt_t hi
    have hadd : realAr.add .i64 (.ofNat i) 1 = .ofNat (Nat.succ i) := ninc (by omega)
    exact lp_ni realAr realAr_ok (xs := l.map f) (n := l.length) (i := i) (z := g l[i]) (e0 := mlen f l) (e1 := hg) (e2 := hble hi) (h1 := hlt) (h2 := hadd) (h3 := heq_t rfl) (hr := lp_nintsI l hl m (i + 1) (by omega))
theorem s_nints (l : List α) (hl : l.length ≤ 2000) : evl (envV realAr) (.call 48 [.sl 1 (l.map f) .imm, .sl 1 (l.map f) .ro] []) = some (.ret (.s (.bool true)) []) :=
  eq_nints realAr realAr_ok (xs := l.map f) (n := l.length) (i := l.length) (e0 := mlen f l) (h1 := heq_t rfl) (h2 := lp_nintsI f g hf l hl l.length 0 (by omega))
end
theorem lp_mtI (olds : List OlT) (W : List AV) (hn : olds.length ≤ 900) : ∀ (m i : Nat), m + i = olds.length →
    lpOf (envV realAr) 10 bd10 7 (stMt (olds.map olA) W ((olds.take i).map olA) i) = some (.code .ret stMtr) ∨ lpOf (envV realAr) 10 bd10 7 (stMt (olds.map olA) W ((olds.take i).map olA) i) = some (.code (.exit 0) (stMte (olds.map olA) W (olds.map olA) olds.length))
  | 0, i, h => by
    have : i = olds.length := by omega
    subst this
    rw [List.take_length]
    exact .inr (lp_mt_end realAr realAr_ok (olds := olds.map olA) (ws := W) (out := olds.map olA) (m := olds.length) (i := olds.length) (e0 := mlen olA olds) (h1 := nlt_f (Nat.le_refl _)))
  | m + 1, i, h => by
    have hi : i < olds.length := by omega
    have hg := mget olA olds hi
    have hlt : realAr.lt (.ofNat i) (.ofNat olds.length) = true := nlt_t hi
    have hadd : realAr.add .i64 (.ofNat i) 1 = .ofNat (Nat.succ i) := ninc (by omega)
    have hsn := msnoc olA (olds.take i) olds[i]
    rw [← List.take_succ_eq_append_getElem hi] at hsn
    have hlen : ((olds.take i).map olA).length = i := by simp; omega
    cases h2 : realAr.lt 100 (.ofNat (realAr.siz olds[i].1)) with
    | true => exact .inl (lp_mt_x1 realAr realAr_ok (olds := olds.map olA) (ws := W) (out := (olds.take i).map olA) (m := olds.length) (i := i) (a := olds[i].1) (b := olds[i].2) (e0 := mlen olA olds) (e1 := hg) (e2 := hble hi) (h1 := hlt) (h2 := h2))
    | false =>
      cases h3 : realAr.lt 100 (.ofNat (realAr.siz olds[i].2)) with
      | true => exact .inl (lp_mt_x2 realAr realAr_ok (olds := olds.map olA) (ws := W) (out := (olds.take i).map olA) (m := olds.length) (i := i) (a := olds[i].1) (b := olds[i].2) (e0 := mlen olA olds) (e1 := hg) (e2 := hble hi) (h1 := hlt) (h2 := h2) (h3 := h3))
      | false =>
        cases h4 : realAr.seq olds[i].1 ⟨#[]⟩ with
        | false =>
          have on := fun r hr => lp_mt_on1 realAr realAr_ok (r := r) (olds := olds.map olA) (ws := W) (out := (olds.take i).map olA) (out2 := (olds.take (i + 1)).map olA) (m := olds.length) (i := i) (u := i) (a := olds[i].1) (b := olds[i].2) (e0 := mlen olA olds) (e1 := hg) (e2 := hble hi) (h1 := hlt) (h2 := h2) (h3 := h3) (e3 := hlen) (e4 := hsn) (e5 := hbeq _) (h6 := hadd) (h7 := hfit (by omega)) (h4 := h4) (hr := hr)
          rcases lp_mtI olds W hn m (i + 1) (by omega) with q | q
          · exact .inl (on _ q)
          · exact .inr (on _ q)
        | true =>
          cases h5 : realAr.seq olds[i].2 ⟨#[]⟩ with
          | false => exact .inl (lp_mt_x3 realAr realAr_ok (olds := olds.map olA) (ws := W) (out := (olds.take i).map olA) (m := olds.length) (i := i) (a := olds[i].1) (b := olds[i].2) (e0 := mlen olA olds) (e1 := hg) (e2 := hble hi) (h1 := hlt) (h2 := h2) (h3 := h3) (h4 := h4) (h5 := h5))
          | true =>
            have on := fun r hr => lp_mt_on2 realAr realAr_ok (r := r) (olds := olds.map olA) (ws := W) (out := (olds.take i).map olA) (out2 := (olds.take (i + 1)).map olA) (m := olds.length) (i := i) (u := i) (a := olds[i].1) (b := olds[i].2) (e0 := mlen olA olds) (e1 := hg) (e2 := hble hi) (h1 := hlt) (h2 := h2) (h3 := h3) (e3 := hlen) (e4 := hsn) (e5 := hbeq _) (h6 := hadd) (h7 := hfit (by omega)) (h4 := h4) (h5 := h5) (hr := hr)
            rcases lp_mtI olds W hn m (i + 1) (by omega) with q | q
            · exact .inl (on _ q)
            · exact .inr (on _ q)
theorem matchTells_law (olds : List OlT) (l : List InsT) (hl : l.length ≤ 9223372036854775807) : evl (envV realAr) (.call 10 [.sl 2 (olds.map olA) .imm, .sl 3 (l.map insA) .imm] []) = some (.ret (.s (.bool true)) []) := by
  rcases s_few l hl with h | ⟨h, hf, h150⟩
  · exact eq_mt_no realAr realAr_ok (olds := olds.map olA) (xs := l.map insA) (h0 := s_law16_up) (h1 := eq_wn_few realAr realAr_ok (xs := l.map insA) (h1 := h) (h3 := heq_t rfl))
  have h3 : realAr.eq 1 0 = false := heq_f (by decide)
  rcases s_Of l h150 hf with ⟨e, -, -, -, k⟩ | ⟨-, -, k, hsz⟩
  · exact eq_mt_no realAr realAr_ok (olds := olds.map olA) (xs := l.map insA) (h0 := s_law16_up) (h1 := eq_wn_no realAr realAr_ok (xs := l.map insA) (h1 := h) (h3 := h3) (h4 := k))
  generalize (someW (l.length + 1) l).1 = ws at k hsz
  have hwl := szWs_len ws
  have hwn := eq_wn realAr realAr_ok (xs := l.map insA) (ws := wtsA ws) (n := ws.length) (e1 := wts_len ws) (e2 := hble (Nat.le_refl _)) (e3 := tkW ws) (e4 := Nat.zero_add _) (e5 := cut0W ws) (h1 := h) (h3 := h3) (h4 := k)
  cases h30 : realAr.lt 30 (.ofNat olds.length) with
  | true => exact eq_mt_many realAr realAr_ok (olds := olds.map olA) (xs := l.map insA) (ws := wtsA ws) (m := olds.length) (e0 := mlen olA olds) (h0 := s_law16_up) (h1 := hwn) (h2 := h30)
  | false =>
    have hn : olds.length ≤ 30 := by
      by_cases q : olds.length ≤ 30
      · exact q
      · have : realAr.lt 30 (.ofNat olds.length) = true := hlt_t (by show (30 : Int) < (olds.length : Int); omega)
        rw [this] at h30
        cases h30
    rcases lp_mtI olds (wtsA ws) (by omega) olds.length 0 (by omega) with q | q
    · exact eq_mt_x realAr realAr_ok (olds := olds.map olA) (xs := l.map insA) (ws := wtsA ws) (m := olds.length) (e0 := mlen olA olds) (h0 := s_law16_up) (h1 := hwn) (h2 := h30) (h3 := q)
    · have h4 := s_mOf .ro (.inl rfl) olds ws (by omega) (by omega)
      have h6 := s_rOf olds ws (by omega) (by omega)
      obtain ⟨l1, l2⟩ := mRun_len .ro (.inl rfl) olds ws (List.range olds.length, [], [])
      simp only [List.length_nil, List.length_range, Nat.zero_add, Nat.add_zero] at l1 l2
      generalize mRun olds ws (List.range olds.length, [], []) = s at h4 h6 l1 l2
      exact eq_mt realAr realAr_ok (olds := olds.map olA) (xs := l.map insA) (ws := wtsA ws) (vs := wtsA ws) (out := olds.map olA) (take := s.2.1.map zA) (kept := s.2.2.map natA) (gone := s.1.map natA) (n := ws.length) (m := olds.length) (t := s.2.1.length) (k := s.2.2.length) (u := s.1.length) (i := olds.length) (e0 := mlen olA olds) (h0 := s_law16_up) (h1 := hwn)
        (e1 := wts_len ws) (e2 := Nat.zero_add _) (e3 := cut0W ws) (e4 := hble (Nat.le_refl _)) (e5 := tkW ws) (e6 := mlen olA olds) (e7 := Nat.zero_add _) (e8 := mcut0 olA olds rfl) (e9 := hble (Nat.le_refl _)) (ea := mlen zA _) (eb := Nat.zero_add _) (ec := mcut0 zA _ rfl) (ed := hble (Nat.le_refl _)) (ee := mlen natA _) (ef := Nat.zero_add _) (eg := mcut0 natA _ rfl) (eh := hble (Nat.le_refl _)) (ei := mlen natA _) (ej := Nat.zero_add _) (ek := mcut0 natA _ rfl) (el := hble (Nat.le_refl _))
        (h2 := h30) (h3 := q) (h4 := h4) (h5 := s_As .ro (.inl rfl) ws (by omega)) (h6 := h6) (h7 := s_nints zA id (fun _ => rfl) s.2.1 (by omega)) (h8 := s_nints natA (fun a => .ofNat a) (fun _ => rfl) s.2.2 (by omega)) (h9 := s_nints natA (fun a => .ofNat a) (fun _ => rfl) s.1 (by omega))
/-- old nodes, as they are handed in -/
theorem old_of {P : Program} {t a : Nat} {fs : Array Field} {y : AV} (h : ArgWf P t y) (hu : P.underlying t = some (.struct fs)) (hfs : fs.toList.map (fun f => (f.offset, f.type)) = [(0, a), (1, a)]) (ha : P.underlying a = some .string)
    (hca : P.cellsOf a = 1) (hct : P.cellsOf t = 2) : ∃ i : OlT, y = olA i ∧ True := by
  obtain ⟨xs, rfl, hl, hf⟩ := arg_struct h hu
  rw [hct] at hl
  match xs, hl with
  | [x, y], _ =>
    have hg : ∀ p ∈ fs.toList.map (fun f => (f.offset, f.type)), Wf P p.2 (([x, y].drop p.1).take (P.cellsOf p.2)) := by
      intro p hp
      obtain ⟨f, hf1, rfl⟩ := List.mem_map.1 hp
      exact hf f hf1
    rw [hfs] at hg
    have h0 := hg (0, a) (by simp)
    have h1 := hg (1, a) (by simp)
    simp only [hca] at h0 h1
    obtain ⟨o, e0, -⟩ := Wf_str h0 ha
    obtain ⟨s, e1, -⟩ := Wf_str h1 ha
    simp at e0 e1
    subst e0 e1
    exact ⟨(o, s), rfl, trivial⟩
theorem oldl_of {P : Program} {t e a : Nat} {fs : Array Field} {y : AV} (h : ArgWf P t y) (ht : P.underlying t = some (.slice e)) (hu : P.underlying e = some (.struct fs)) (hfs : fs.toList.map (fun f => (f.offset, f.type)) = [(0, a), (1, a)]) (ha : P.underlying a = some .string)
    (hca : P.cellsOf a = 1) (hct : P.cellsOf e = 2) : ∃ l : List OlT, y = .sl 2 (l.map olA) .imm := by
  obtain ⟨ys, rfl, hl, hy⟩ := arg_slice h ht
  obtain ⟨l, rfl, -⟩ := list_map (fun y h => old_of h hu hfs ha hca hct) hy
  rw [hct]
  exact ⟨l, rfl⟩
end Go.Va
