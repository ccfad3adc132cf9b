/- The functions that the statement reaches, by equations: no statement of its own. -/
import Derived.Test.YtmklimlepgiffaaEq6
set_option linter.unusedVariables false
set_option linter.unusedSimpArgs false
set_option linter.unusedSectionVars false
namespace Go.Va
open Go.Proofs
set_option maxRecDepth 100000
set_option maxHeartbeats 4000000
namespace ArStr
def stN (room : Int) (ds gs o : List AV) (last : Int) (i : Nat) : St := { n := 110, k := 0, fr := [(0, .s (.int .i64 room)), (1, .sl 1 ds .imm), (5, .s (.bool true)), (6, .ptr 0 0), (8, .s (.int .i64 last)), (9, .sl 1 gs .full), (10, .s (.int .i64 (.ofNat i)))], O := [o] }
def stNe (room : Int) (ds gs o : List AV) (last : Int) (i : Nat) : St := { n := 110, k := 0, fr := [(0, .s (.int .i64 room)), (1, .sl 1 ds .imm), (5, .s (.bool true)), (6, .ptr 0 0), (8, .s (.int .i64 last)), (9, .sl 1 gs .full), (10, .s (.int .i64 (.ofNat i))), (44, .s (.bool false))], O := [o] }
def stM (room : Int) (ds gs o : List AV) (last : Int) (i k : Nat) : St := { n := 110, k := 0, fr := [(0, .s (.int .i64 room)), (1, .sl 1 ds .imm), (5, .s (.bool true)), (6, .ptr 0 0), (8, .s (.int .i64 last)), (9, .sl 1 gs .full), (10, .s (.int .i64 (.ofNat i))), (13, .s (.int .i64 (.ofNat k)))], O := [o] }
def stMe (room : Int) (ds gs o : List AV) (last : Int) (i k : Nat) : St := { n := 110, k := 0, fr := [(0, .s (.int .i64 room)), (1, .sl 1 ds .imm), (5, .s (.bool true)), (6, .ptr 0 0), (8, .s (.int .i64 last)), (9, .sl 1 gs .full), (10, .s (.int .i64 (.ofNat i))), (13, .s (.int .i64 (.ofNat k))), (74, .s (.bool false))], O := [o] }
section
variable (A : Ar) (hA : ArOk A) (ss fs ss1 fs1 ss2 fs2 ds gs : List AV) (n m i k : Nat) (room last l2 id d g rl : Int)
include hA
theorem lp_an_in {r : Option Res} (v : AV) (hv : v = .s (.string ⟨#[]⟩)) (e0 : gs.length = m) (e1 : lget gs k = some (.s (.int .i64 g))) (e2 : Nat.ble (Nat.succ k) m = true) (e3 : 0 + k = k) (h1 : A.lt (.ofNat k) (.ofNat m) = true) (h2 : A.add .i64 (.ofNat k) 1 = .ofNat (Nat.succ k))
    (h3 : evl (envV A) (.call 31 [arV ss fs room rl, .s (.int .i64 g)] []) = some (.ret (.tup [v, .s (.bool false)]) []))
    (h4 : evl (envV A) (.call 32 [.ptr 0 0, .s (.int .i64 g), .s (.string ⟨#[121]⟩)] [arO ss fs room rl]) = some (.ret (.s (.bool false)) [arO ss fs room rl]))
    (h5 : evl (envV A) (.call 30 [.ptr 0 0, .s (.int .i64 g)] [arO ss fs room rl]) = some (.ret (.s (.bool false)) [arO ss fs room rl]))
    (hr : lpOf (envV A) 6 bd6 18 (stM room ds gs (arO ss fs room rl) last i (Nat.succ k)) = r) :
    lpOf (envV A) 6 bd6 18 (stM room ds gs (arO ss fs room rl) last i k) = r := by
  subst hv
  unfold stM arO at hr ⊢; unfold arV at h3; unfold arO at h4 h5
  rw [lp_step (envV A) 6 (c0 := bd6) (lv := lvF6) rfl rfl]
  have hnle := hA.nleE; have hneq := hA.neqE
  have klt := hA.lt; have kle := hA.le; have keq := hA.eq; have knle := hA.nle; have kneq := hA.neq
  rw [lp_split (lpOf (envV A) 6 bd6) 18]
  generalize lpOf (envV A) 6 bd6 18 = L18 at e0 e1 e2 e3 h1 h2 h3 h4 h5 hr ⊢
  generalize lpOf (envV A) 6 bd6 = LP
  generalize evl (envV A) = E at e0 e1 e2 e3 h1 h2 h3 h4 h5 hr ⊢
  obtain ⟨aadd, asub, amul, arem, aquo, awr, ashr, aeq, alt, ale, aseq, aslt, acat, acut, asiz, aat, anle, aneq, afit⟩ := A
  simp only at hnle hneq
  subst hnle hneq
  simp only at klt kle keq knle kneq
  try simp only at h1 h2 h3 h4 h5 hr
  conv at e0 => lhs; cbv
  conv at e1 => lhs; cbv
  conv at e2 => lhs; cbv
  conv at e3 => lhs; cbv
  cbv
  rewrite [e0]
  cbv
  rewrite [h1]
  cbv
  rewrite [e0]
  cbv
  rewrite [e2]
  cbv
  rewrite [e3]
  cbv
  rewrite [e1]
  cbv
  rewrite [h3]
  cbv
  rewrite [e0]
  cbv
  rewrite [e2]
  cbv
  rewrite [e3]
  cbv
  rewrite [e1]
  cbv
  rewrite [h4]
  cbv
  rewrite [e0]
  cbv
  rewrite [e2]
  cbv
  rewrite [e3]
  cbv
  rewrite [e1]
  cbv
  rewrite [h5]
  cbv
  rewrite [h2]
  cbv
  rewrite [hr]
  cbv
theorem lp_an_ine (e0 : gs.length = m) (h1 : A.lt (.ofNat k) (.ofNat m) = false) :
    lpOf (envV A) 6 bd6 18 (stM room ds gs (arO ss fs room rl) last i k) = some (.code (.exit 2) (stMe room ds gs (arO ss fs room rl) last i k)) := by
  unfold stM stMe arO
  rw [lp_step (envV A) 6 (c0 := bd6) (lv := lvF6) rfl rfl]
  have hnle := hA.nleE; have hneq := hA.neqE
  have klt := hA.lt; have kle := hA.le; have keq := hA.eq; have knle := hA.nle; have kneq := hA.neq
  generalize lpOf (envV A) 6 bd6 = LP
  generalize evl (envV A) = E at e0 h1 ⊢
  obtain ⟨aadd, asub, amul, arem, aquo, awr, ashr, aeq, alt, ale, aseq, aslt, acat, acut, asiz, aat, anle, aneq, afit⟩ := A
  simp only at hnle hneq
  subst hnle hneq
  simp only at klt kle keq knle kneq
  try simp only at h1
  conv at e0 => lhs; cbv
  cbv
  rewrite [e0]
  cbv
  rewrite [h1]
  cbv
theorem lp_an {r : Option Res} (b f : Bool) (gs2 : List AV) (e0 : ds.length = n) (e1 : lget ds i = some (.s (.int .i64 d))) (e2 : Nat.ble (Nat.succ i) n = true) (h1 : A.lt (.ofNat i) (.ofNat n) = true) (h2 : A.add .i64 (.ofNat i) 1 = .ofNat (Nat.succ i))
    (h3 : evl (envV A) (.call 29 [.ptr 0 0, .s (.string ⟨#[120]⟩)] [arO ss fs room rl]) = some (.ret (.tup [.s (.int .i64 id), bif f then .s .nilIface else .s (.iface 45 (.int .i64 6))]) [arO ss1 fs1 room l2]))
    (h4 : evl (envV A) (.call 30 [.ptr 0 0, .s (.int .i64 d)] [arO ss1 fs1 room l2]) = some (.ret (.s (.bool b)) [arO ss2 fs2 room l2]))
    (h5 : (bif f then A.le id last else false) = false) (e3 : gs.length = m) (e4 : gs ++ [.s (.int .i64 d)] = gs2) (e5 : Nat.beq m m = true) (h6 : A.fit (Nat.succ m) 8 = true)
    (h7 : lpOf (envV A) 6 bd6 18 (stM room ds (bif b then gs2 else gs) (arO ss2 fs2 room l2) (bif f then id else last) i 0) = some (.code (.exit 2) (stMe room ds (bif b then gs2 else gs) (arO ss2 fs2 room l2) (bif f then id else last) i k)))
    (hr : lpOf (envV A) 6 bd6 8 (stN room ds (bif b then gs2 else gs) (arO ss2 fs2 room l2) (bif f then id else last) (Nat.succ i)) = r) :
    lpOf (envV A) 6 bd6 8 (stN room ds gs (arO ss fs room rl) last i) = r := by
  unfold stM stMe at h7; unfold stN at hr ⊢; unfold arO at hr h3 h4 h7 ⊢
  simp only [show Int.ofNat 0 = 0 from rfl] at h7
  cases b <;> cases f <;> simp only [cond_true, cond_false] at h3 h5 h7 hr
  ·
    rw [lp_step (envV A) 6 (c0 := bd6) (lv := lvF6) rfl rfl]
    have hnle := hA.nleE; have hneq := hA.neqE
    have klt := hA.lt; have kle := hA.le; have keq := hA.eq; have knle := hA.nle; have kneq := hA.neq
    rw [lp_split (lpOf (envV A) 6 bd6) 8]
    generalize lpOf (envV A) 6 bd6 8 = L8 at e0 e1 e2 e3 h1 h2 h3 h4 h7 hr ⊢
    rw [lp_split (lpOf (envV A) 6 bd6) 18]
    generalize lpOf (envV A) 6 bd6 18 = L18 at e0 e1 e2 e3 h1 h2 h3 h4 h7 hr ⊢
    generalize lpOf (envV A) 6 bd6 = LP
    generalize evl (envV A) = E at e0 e1 e2 e3 h1 h2 h3 h4 h7 hr ⊢
    obtain ⟨aadd, asub, amul, arem, aquo, awr, ashr, aeq, alt, ale, aseq, aslt, acat, acut, asiz, aat, anle, aneq, afit⟩ := A
    simp only at hnle hneq
    subst hnle hneq
    simp only at klt kle keq knle kneq
    try simp only at h1 h2 h3 h4 h7 hr
    conv at e0 => lhs; cbv
    conv at e1 => lhs; cbv
    conv at e2 => lhs; cbv
    conv at e3 => lhs; cbv
    cbv
    rewrite [e0]
    cbv
    rewrite [h1]
    cbv
    rewrite [h3]
    cbv
    rewrite [e1]
    cbv
    rewrite [h4]
    cbv
    rewrite [h7]
    cbv
    rewrite [h2]
    cbv
    rewrite [hr]
    cbv
  ·
    rw [lp_step (envV A) 6 (c0 := bd6) (lv := lvF6) rfl rfl]
    have hnle := hA.nleE; have hneq := hA.neqE
    have klt := hA.lt; have kle := hA.le; have keq := hA.eq; have knle := hA.nle; have kneq := hA.neq
    rw [lp_split (lpOf (envV A) 6 bd6) 8]
    generalize lpOf (envV A) 6 bd6 8 = L8 at e0 e1 e2 e3 h1 h2 h3 h4 h5 h7 hr ⊢
    rw [lp_split (lpOf (envV A) 6 bd6) 18]
    generalize lpOf (envV A) 6 bd6 18 = L18 at e0 e1 e2 e3 h1 h2 h3 h4 h5 h7 hr ⊢
    generalize lpOf (envV A) 6 bd6 = LP
    generalize evl (envV A) = E at e0 e1 e2 e3 h1 h2 h3 h4 h5 h7 hr ⊢
    obtain ⟨aadd, asub, amul, arem, aquo, awr, ashr, aeq, alt, ale, aseq, aslt, acat, acut, asiz, aat, anle, aneq, afit⟩ := A
    simp only at hnle hneq
    subst hnle hneq
    simp only at klt kle keq knle kneq
    try simp only at h1 h2 h3 h4 h5 h7 hr
    conv at e0 => lhs; cbv
    conv at e1 => lhs; cbv
    conv at e2 => lhs; cbv
    conv at e3 => lhs; cbv
    cbv
    rewrite [e0]
    cbv
    rewrite [h1]
    cbv
    rewrite [h3]
    cbv
    rewrite [h5]
    cbv
    rewrite [e1]
    cbv
    rewrite [h4]
    cbv
    rewrite [h7]
    cbv
    rewrite [h2]
    cbv
    rewrite [hr]
    cbv
  ·
    rw [lp_step (envV A) 6 (c0 := bd6) (lv := lvF6) rfl rfl]
    have hnle := hA.nleE; have hneq := hA.neqE
    have klt := hA.lt; have kle := hA.le; have keq := hA.eq; have knle := hA.nle; have kneq := hA.neq
    rw [lp_split (lpOf (envV A) 6 bd6) 8]
    generalize lpOf (envV A) 6 bd6 8 = L8 at e0 e1 e2 e3 e4 e5 h1 h2 h3 h4 h6 h7 hr ⊢
    rw [lp_split (lpOf (envV A) 6 bd6) 18]
    generalize lpOf (envV A) 6 bd6 18 = L18 at e0 e1 e2 e3 e4 e5 h1 h2 h3 h4 h6 h7 hr ⊢
    generalize lpOf (envV A) 6 bd6 = LP
    generalize evl (envV A) = E at e0 e1 e2 e3 e4 e5 h1 h2 h3 h4 h6 h7 hr ⊢
    obtain ⟨aadd, asub, amul, arem, aquo, awr, ashr, aeq, alt, ale, aseq, aslt, acat, acut, asiz, aat, anle, aneq, afit⟩ := A
    simp only at hnle hneq
    subst hnle hneq
    simp only at klt kle keq knle kneq
    try simp only at h1 h2 h3 h4 h6 h7 hr
    conv at e0 => lhs; cbv
    conv at e1 => lhs; cbv
    conv at e2 => lhs; cbv
    conv at e3 => lhs; cbv
    conv at e4 => lhs; cbv
    conv at e5 => lhs; cbv
    cbv
    rewrite [e0]
    cbv
    rewrite [h1]
    cbv
    rewrite [h3]
    cbv
    rewrite [e1]
    cbv
    rewrite [h4]
    cbv
    rewrite [e1]
    cbv
    rewrite [e3]
    cbv
    rewrite [e4]
    cbv
    rewrite [e5]
    cbv
    rewrite [h6]
    cbv
    rewrite [h7]
    cbv
    rewrite [h2]
    cbv
    rewrite [hr]
    cbv
  ·
    rw [lp_step (envV A) 6 (c0 := bd6) (lv := lvF6) rfl rfl]
    have hnle := hA.nleE; have hneq := hA.neqE
    have klt := hA.lt; have kle := hA.le; have keq := hA.eq; have knle := hA.nle; have kneq := hA.neq
    rw [lp_split (lpOf (envV A) 6 bd6) 8]
    generalize lpOf (envV A) 6 bd6 8 = L8 at e0 e1 e2 e3 e4 e5 h1 h2 h3 h4 h5 h6 h7 hr ⊢
    rw [lp_split (lpOf (envV A) 6 bd6) 18]
    generalize lpOf (envV A) 6 bd6 18 = L18 at e0 e1 e2 e3 e4 e5 h1 h2 h3 h4 h5 h6 h7 hr ⊢
    generalize lpOf (envV A) 6 bd6 = LP
    generalize evl (envV A) = E at e0 e1 e2 e3 e4 e5 h1 h2 h3 h4 h5 h6 h7 hr ⊢
    obtain ⟨aadd, asub, amul, arem, aquo, awr, ashr, aeq, alt, ale, aseq, aslt, acat, acut, asiz, aat, anle, aneq, afit⟩ := A
    simp only at hnle hneq
    subst hnle hneq
    simp only at klt kle keq knle kneq
    try simp only at h1 h2 h3 h4 h5 h6 h7 hr
    conv at e0 => lhs; cbv
    conv at e1 => lhs; cbv
    conv at e2 => lhs; cbv
    conv at e3 => lhs; cbv
    conv at e4 => lhs; cbv
    conv at e5 => lhs; cbv
    cbv
    rewrite [e0]
    cbv
    rewrite [h1]
    cbv
    rewrite [h3]
    cbv
    rewrite [h5]
    cbv
    rewrite [e1]
    cbv
    rewrite [h4]
    cbv
    rewrite [e1]
    cbv
    rewrite [e3]
    cbv
    rewrite [e4]
    cbv
    rewrite [e5]
    cbv
    rewrite [h6]
    cbv
    rewrite [h7]
    cbv
    rewrite [h2]
    cbv
    rewrite [hr]
    cbv
theorem lp_ane (e0 : ds.length = n) (h1 : A.lt (.ofNat i) (.ofNat n) = false) :
    lpOf (envV A) 6 bd6 8 (stN room ds gs (arO ss fs room rl) last i) = some (.code (.exit 0) (stNe room ds gs (arO ss fs room rl) last i)) := by
  unfold stN stNe arO
  rw [lp_step (envV A) 6 (c0 := bd6) (lv := lvF6) rfl rfl]
  have hnle := hA.nleE; have hneq := hA.neqE
  have klt := hA.lt; have kle := hA.le; have keq := hA.eq; have knle := hA.nle; have kneq := hA.neq
  generalize lpOf (envV A) 6 bd6 = LP
  generalize evl (envV A) = E at e0 h1 ⊢
  obtain ⟨aadd, asub, amul, arem, aquo, awr, ashr, aeq, alt, ale, aseq, aslt, acat, acut, asiz, aat, anle, aneq, afit⟩ := A
  simp only at hnle hneq
  subst hnle hneq
  simp only at klt kle keq knle kneq
  try simp only at h1
  conv at e0 => lhs; cbv
  cbv
  rewrite [e0]
  cbv
  rewrite [h1]
  cbv
theorem eq_an_no (h0 : evl (envV A) (.call 27 [] []) = some (.ret (.s (.bool true)) [])) (h1 : evl (envV A) (.call 28 [.s (.int .i64 room)] []) = some (.ret (.tup [.s (.pointer none), .s (.iface 45 (.int .i64 1))]) [])) :
    evl (envV A) (.call 6 [.s (.int .i64 room), .sl 1 ds .imm] []) = some (.ret (.s (.bool true)) []) := by
  rw [evl_fn (envV A) 6 _ _ (fn := Try.f6) (c := bd6) (lv := lvF6) rfl rfl rfl rfl rfl rfl]
  have hnle := hA.nleE; have hneq := hA.neqE
  have klt := hA.lt; have kle := hA.le; have keq := hA.eq; have knle := hA.nle; have kneq := hA.neq
  generalize lpOf (envV A) 6 bd6 = LP
  generalize evl (envV A) = E at h0 h1 ⊢
  obtain ⟨aadd, asub, amul, arem, aquo, awr, ashr, aeq, alt, ale, aseq, aslt, acat, acut, asiz, aat, anle, aneq, afit⟩ := A
  simp only at hnle hneq
  subst hnle hneq
  simp only at klt kle keq knle kneq
  try simp only at h0 h1
  cbv
  rewrite [h0]
  cbv
  rewrite [h1]
  cbv
theorem eq_an_many (h0 : evl (envV A) (.call 27 [] []) = some (.ret (.s (.bool true)) [])) (h1 : evl (envV A) (.call 28 [.s (.int .i64 room)] []) = some (.ret (.tup [.ptr 0 0, .s .nilIface]) [arO [] [] room 0])) (e0 : ds.length = n) (h2 : A.lt 150 (.ofNat n) = true) :
    evl (envV A) (.call 6 [.s (.int .i64 room), .sl 1 ds .imm] []) = some (.ret (.s (.bool true)) []) := by
  unfold arO at h1
  rw [evl_fn (envV A) 6 _ _ (fn := Try.f6) (c := bd6) (lv := lvF6) rfl rfl rfl rfl rfl rfl]
  have hnle := hA.nleE; have hneq := hA.neqE
  have klt := hA.lt; have kle := hA.le; have keq := hA.eq; have knle := hA.nle; have kneq := hA.neq
  generalize lpOf (envV A) 6 bd6 = LP
  generalize evl (envV A) = E at h0 h1 e0 h2 ⊢
  obtain ⟨aadd, asub, amul, arem, aquo, awr, ashr, aeq, alt, ale, aseq, aslt, acat, acut, asiz, aat, anle, aneq, afit⟩ := A
  simp only at hnle hneq
  subst hnle hneq
  simp only at klt kle keq knle kneq
  try simp only at h0 h1 h2
  conv at e0 => lhs; cbv
  cbv
  rewrite [h0]
  cbv
  rewrite [h1]
  cbv
  rewrite [e0]
  cbv
  rewrite [h2]
  cbv
theorem eq_an (h0 : evl (envV A) (.call 27 [] []) = some (.ret (.s (.bool true)) [])) (h1 : evl (envV A) (.call 28 [.s (.int .i64 room)] []) = some (.ret (.tup [.ptr 0 0, .s .nilIface]) [arO [] [] room 0])) (e0 : ds.length = n) (h2 : A.lt 150 (.ofNat n) = false)
    (h3 : lpOf (envV A) 6 bd6 8 (stN room ds [] (arO [] [] room 0) 0 0) = some (.code (.exit 0) (stNe room ds gs (arO ss fs room rl) last n)))
    (h4 : evl (envV A) (.call 33 [arV ss fs room rl] []) = some (.ret (.s (.int .i64 d)) [])) (h5 : A.le d room = true) :
    evl (envV A) (.call 6 [.s (.int .i64 room), .sl 1 ds .imm] []) = some (.ret (.s (.bool true)) []) := by
  unfold arO at h1; unfold stN stNe arO at h3; unfold arV at h4
  simp only [show Int.ofNat 0 = 0 from rfl] at h3
  rw [evl_fn (envV A) 6 _ _ (fn := Try.f6) (c := bd6) (lv := lvF6) rfl rfl rfl rfl rfl rfl]
  have hnle := hA.nleE; have hneq := hA.neqE
  have klt := hA.lt; have kle := hA.le; have keq := hA.eq; have knle := hA.nle; have kneq := hA.neq
  rw [lp_split (lpOf (envV A) 6 bd6) 8]
  generalize lpOf (envV A) 6 bd6 8 = L8 at h0 h1 e0 h2 h3 h4 h5 ⊢
  generalize lpOf (envV A) 6 bd6 = LP
  generalize evl (envV A) = E at h0 h1 e0 h2 h3 h4 h5 ⊢
  obtain ⟨aadd, asub, amul, arem, aquo, awr, ashr, aeq, alt, ale, aseq, aslt, acat, acut, asiz, aat, anle, aneq, afit⟩ := A
  simp only at hnle hneq
  subst hnle hneq
  simp only at klt kle keq knle kneq
  try simp only at h0 h1 h2 h3 h4 h5
  conv at e0 => lhs; cbv
  cbv
  rewrite [h0]
  cbv
  rewrite [h1]
  cbv
  rewrite [e0]
  cbv
  rewrite [h2]
  cbv
  rewrite [h3]
  cbv
  rewrite [h4]
  cbv
  rewrite [h5]
  cbv
end
end ArStr
end Go.Va
