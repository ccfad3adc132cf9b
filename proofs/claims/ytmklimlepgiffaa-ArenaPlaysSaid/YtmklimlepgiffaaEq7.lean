/- The functions that the statement reaches, by equations: no statement of its own. -/
import Derived.Test.YtmklimlepgiffaaEq6
set_option linter.unusedVariables false
set_option linter.unusedSimpArgs false
set_option linter.unusedSectionVars false
namespace Go.Va
open Go.Proofs
set_option maxRecDepth 100000
set_option maxHeartbeats 4000000
namespace ArStr
def stN (room : Int) (ds gs o : List AV) (last : Int) (i : Nat) : St := { n := 110, k := 0, fr := [(0, .s (.int .i64 room)), (1, .sl 1 ds .imm), (5, .s (.bool true)), (6, .ptr 0 0), (8, .s (.int .i64 last)), (9, .sl 1 gs .full), (10, .s (.int .i64 (.ofNat i)))], O := [o] }
def stNe (room : Int) (ds gs o : List AV) (last : Int) (i : Nat) : St := { n := 110, k := 0, fr := [(0, .s (.int .i64 room)), (1, .sl 1 ds .imm), (5, .s (.bool true)), (6, .ptr 0 0), (8, .s (.int .i64 last)), (9, .sl 1 gs .full), (10, .s (.int .i64 (.ofNat i))), (44, .s (.bool false))], O := [o] }
def stM (room : Int) (ds gs o : List AV) (last : Int) (i k : Nat) : St := { n := 110, k := 0, fr := [(0, .s (.int .i64 room)), (1, .sl 1 ds .imm), (5, .s (.bool true)), (6, .ptr 0 0), (8, .s (.int .i64 last)), (9, .sl 1 gs .full), (10, .s (.int .i64 (.ofNat i))), (13, .s (.int .i64 (.ofNat k)))], O := [o] }
def stMe (room : Int) (ds gs o : List AV) (last : Int) (i k : Nat) : St := { n := 110, k := 0, fr := [(0, .s (.int .i64 room)), (1, .sl 1 ds .imm), (5, .s (.bool true)), (6, .ptr 0 0), (8, .s (.int .i64 last)), (9, .sl 1 gs .full), (10, .s (.int .i64 (.ofNat i))), (13, .s (.int .i64 (.ofNat k))), (74, .s (.bool false))], O := [o] }
section
variable (A : Ar) (hA : ArOk A) (ss fs ss1 fs1 ss2 fs2 ds gs : List AV) (n m i k : Nat) (room last l2 id d g rl : Int)
include hA
theorem lp_an_in {r : Option Res} (v : AV) (hv : v = .s (.string ⟨#[]⟩)) (e0 : gs.length = m) (e1 : lget gs k = some (.s (.int .i64 g))) (e2 : Nat.ble (Nat.succ k) m = true) (e3 : 0 + k = k) (h1 : A.lt (.ofNat k) (.ofNat m) = true) (h2 : A.add .i64 (.ofNat k) 1 = .ofNat (Nat.succ k))
    (h3 : evl (envV A) (.call 31 [arV ss fs room rl, .s (.int .i64 g)] []) = some (.ret (.tup [v, .s (.bool false)]) []))
    (h4 : evl (envV A) (.call 32 [.ptr 0 0, .s (.int .i64 g), .s (.string ⟨#[121]⟩)] [arO ss fs room rl]) = some (.ret (.s (.bool false)) [arO ss fs room rl]))
    (h5 : evl (envV A) (.call 30 [.ptr 0 0, .s (.int .i64 g)] [arO ss fs room rl]) = some (.ret (.s (.bool false)) [arO ss fs room rl]))
    (hr : lpOf (envV A) 6 bd6 18 (stM room ds gs (arO ss fs room rl) last i (Nat.succ k)) = r) :
    lpOf (envV A) 6 bd6 18 (stM room ds gs (arO ss fs room rl) last i k) = r := by
  subst hv
  unfold stM arO at hr ⊢; unfold arV at h3; unfold arO at h4 h5
  rw [lp_step (envV A) 6 (c0 := bd6) (lv := lvF6) rfl rfl]
  have hnle := hA.nleE; have hneq := hA.neqE
  have klt := hA.lt; have kle := hA.le; have keq := hA.eq; have knle := hA.nle; have kneq := hA.neq
  rw [lp_split (lpOf (envV A) 6 bd6) 18]
  generalize lpOf (envV A) 6 bd6 18 = L18 at e0 e1 e2 e3 h1 h2 h3 h4 h5 hr ⊢
  generalize lpOf (envV A) 6 bd6 = LP
  generalize evl (envV A) = E at e0 e1 e2 e3 h1 h2 h3 h4 h5 hr ⊢
  obtain ⟨aadd, asub, amul, arem, aquo, awr, ashr, aeq, alt, ale, aseq, aslt, acat, acut, asiz, aat, anle, aneq, afit⟩ := A
  simp only at hnle hneq
  subst hnle hneq
  simp only at klt kle keq knle kneq
  try simp only at h1 h2 h3 h4 h5 hr
  conv at e0 => lhs; cbv
  conv at e1 => lhs; cbv
  conv at e2 => lhs; cbv
  conv at e3 => lhs; cbv
  cbv
  rewrite [e0]
  cbv
  rewrite [h1]
  cbv
  rewrite [e0]
  cbv
  rewrite [e2]
  cbv
  rewrite [e3]
  cbv
  rewrite [e1]
  cbv
  rewrite [h3]
  cbv
  rewrite [e0]
  cbv
  rewrite [e2]
  cbv
  rewrite [e3]
  cbv
  rewrite [e1]
  cbv
  rewrite [h4]
  cbv
  rewrite [e0]
  cbv
  rewrite [e2]
  cbv
  rewrite [e3]
  cbv
  rewrite [e1]
  cbv
  rewrite [h5]
  cbv
  rewrite [h2]
  cbv
  rewrite [hr]
  cbv
theorem lp_an_ine (e0 : gs.length = m) (h1 : A.lt (.ofNat k) (.ofNat m) = false) :
    lpOf (envV A) 6 bd6 18 (stM room ds gs (arO ss fs room rl) last i k) = some (.code (.exit 2) (stMe room ds gs (arO ss fs room rl) last i k)) := by
  unfold stM stMe arO
  rw [lp_step (envV A) 6 (c0 := bd6) (lv := lvF6) rfl rfl]
  have hnle := hA.nleE; have hneq := hA.neqE
  have klt := hA.lt; have kle := hA.le; have keq := hA.eq; have knle := hA.nle; have kneq := hA.neq
  generalize lpOf (envV A) 6 bd6 = LP
  generalize evl (envV A) = E at e0 h1 ⊢
  obtain ⟨aadd, asub, amul, arem, aquo, awr, ashr, aeq, alt, ale, aseq, aslt, acat, acut, asiz, aat, anle, aneq, afit⟩ := A
  simp only at hnle hneq
  subst hnle hneq
  simp only at klt kle keq knle kneq
  try simp only at h1
  conv at e0 => lhs; cbv
  cbv
  rewrite [e0]
  cbv
  rewrite [h1]
  cbv
theorem lp_an {r : Option Res} (b f : Bool) (gs2 : List AV) (e0 : ds.length = n) (e1 : lget ds i = some (.s (.int .i64 d))) (e2 : Nat.ble (Nat.succ i) n = true) (h1 : A.lt (.ofNat i) (.ofNat n) = true) (h2 : A.add .i64 (.ofNat i) 1 = .ofNat (Nat.succ i))
    (h3 : evl (envV A) (.call 29 [.ptr 0 0, .s (.string ⟨#[120]⟩)] [arO ss fs room rl]) = some (.ret (.tup [.s (.int .i64 id), bif f then .s .nilIface else .s (.iface 45 (.int .i64 6))]) [arO ss1 fs1 room l2]))
    (h4 : evl (envV A) (.call 30 [.ptr 0 0, .s (.int .i64 d)] [arO ss1 fs1 room l2]) = some (.ret (.s (.bool b)) [arO ss2 fs2 room l2]))
    (h5 : (bif f then A.le id last else false) = false) (e3 : gs.length = m) (e4 : gs ++ [.s (.int .i64 d)] = gs2) (e5 : Nat.beq m m = true) (h6 : A.fit (Nat.succ m) 8 = true)
    (h7 : lpOf (envV A) 6 bd6 18 (stM room ds (bif b then gs2 else gs) (arO ss2 fs2 room l2) (bif f then id else last) i 0) = some (.code (.exit 2) (stMe room ds (bif b then gs2 else gs) (arO ss2 fs2 room l2) (bif f then id else last) i k)))
    (hr : lpOf (envV A) 6 bd6 8 (stN room ds (bif b then gs2 else gs) (arO ss2 fs2 room l2) (bif f then id else last) (Nat.succ i)) = r) :
    lpOf (envV A) 6 bd6 8 (stN room ds gs (arO ss fs room rl) last i) = r := by
  unfold stM stMe at h7; unfold stN at hr ⊢; unfold arO at hr h3 h4 h7 ⊢
  simp only [show Int.ofNat 0 = 0 from rfl] at h7
  cases b <;> cases f <;> simp only [cond_true, cond_false] at h3 h5 h7 hr
  ·
    rw [lp_step (envV A) 6 (c0 := bd6) (lv := lvF6) rfl rfl]
    have hnle := hA.nleE; have hneq := hA.neqE
    have klt := hA.lt; have kle := hA.le; have keq := hA.eq; have knle := hA.nle; have kneq := hA.neq
    rw [lp_split (lpOf (envV A) 6 bd6) 8]
    generalize lpOf (envV A) 6 bd6 8 = L8 at e0 e1 e2 e3 h1 h2 h3 h4 h7 hr ⊢
    rw [lp_split (lpOf (envV A) 6 bd6) 18]
    generalize lpOf (envV A) 6 bd6 18 = L18 at e0 e1 e2 e3 h1 h2 h3 h4 h7 hr ⊢
    generalize lpOf (envV A) 6 bd6 = LP
    generalize evl (envV A) = E at e0 e1 e2 e3 h1 h2 h3 h4 h7 hr ⊢
    obtain ⟨aadd, asub, amul, arem, aquo, awr, ashr, aeq, alt, ale, aseq, aslt, acat, acut, asiz, aat, anle, aneq, afit⟩ := A
    simp only at hnle hneq
    subst hnle hneq
    simp only at klt kle keq knle kneq
    try simp only at h1 h2 h3 h4 h7 hr
    conv at e0 => lhs; cbv
    conv at e1 => lhs; cbv
    conv at e2 => lhs; cbv
    conv at e3 => lhs; cbv
    cbv
    rewrite [e0]
    cbv
    rewrite [h1]
    cbv
    rewrite [h3]
    cbv
    rewrite [e1]
    cbv
    rewrite [h4]
    cbv
    rewrite [h7]
    cbv
    rewrite [h2]
    cbv
    rewrite [hr]
    cbv
  ·
    rw [lp_step (envV A) 6 (c0 := bd6) (lv := lvF6) rfl rfl]
    have hnle := hA.nleE; have hneq := hA.neqE
    have klt := hA.lt; have kle := hA.le; have keq := hA.eq; have knle := hA.nle; have kneq := hA.neq
    rw [lp_split (lpOf (envV A) 6 bd6) 8]
    generalize lpOf (envV A) 6 bd6 8 = L8 at e0 e1 e2 e3 h1 h2 h3 h4 h5 h7 hr ⊢
    rw [lp_split (lpOf (envV A) 6 bd6) 18]
    generalize lpOf (envV A) 6 bd6 18 = L18 at e0 e1 e2 e3 h1 h2 h3 h4 h5 h7 hr ⊢
    generalize lpOf (envV A) 6 bd6 = LP
    generalize evl (envV A) = E at e0 e1 e2 e3 h1 h2 h3 h4 h5 h7 hr ⊢
    obtain ⟨aadd, asub, amul, arem, aquo, awr, ashr, aeq, alt, ale, aseq, aslt, acat, acut, asiz, aat, anle, aneq, afit⟩ := A
    simp only at hnle hneq
    subst hnle hneq
    simp only at klt kle keq knle kneq
    try simp only at h1 h2 h3 h4 h5 h7 hr
    conv at e0 => lhs; cbv
    conv at e1 => lhs; cbv
    conv at e2 => lhs; cbv
    conv at e3 => lhs; cbv
    cbv
    rewrite [e0]
    cbv
    rewrite [h1]
    cbv
    rewrite [h3]
    cbv
    rewrite [h5]
    cbv
    rewrite [e1]
    cbv
    rewrite [h4]
    cbv
    rewrite [h7]
    cbv
    rewrite [h2]
    cbv
    rewrite [hr]
    cbv
  ·
    rw [lp_step (envV A) 6 (c0 := bd6) (lv := lvF6) rfl rfl]
    have hnle := hA.nleE; have hneq := hA.neqE
    have klt := hA.lt; have kle := hA.le; have keq := hA.eq; have knle := hA.nle; have kneq := hA.neq
    rw [lp_split (lpOf (envV A) 6 bd6) 8]
    generalize lpOf (envV A) 6 bd6 8 = L8 at e0 e1 e2 e3 e4 e5 h1 h2 h3 h4 h6 h7 hr ⊢
    rw [lp_split (lpOf (envV A) 6 bd6) 18]
    generalize lpOf (envV A) 6 bd6 18 = L18 at e0 e1 e2 e3 e4 e5 h1 h2 h3 h4 h6 h7 hr ⊢
    generalize lpOf (envV A) 6 bd6 = LP
    generalize evl (envV A) = E at e0 e1 e2 e3 e4 e5 h1 h2 h3 h4 h6 h7 hr ⊢
    obtain ⟨aadd, asub, amul, arem, aquo, awr, ashr, aeq, alt, ale, aseq, aslt, acat, acut, asiz, aat, anle, aneq, afit⟩ := A
    simp only at hnle hneq
    subst hnle hneq
    simp only at klt kle keq knle kneq
    try simp only at h1 h2 h3 h4 h6 h7 hr
    conv at e0 => lhs; cbv
    conv at e1 => lhs; cbv
    conv at e2 => lhs; cbv
    conv at e3 => lhs; cbv
    conv at e4 => lhs; cbv
    conv at e5 => lhs; cbv
    cbv
    rewrite [e0]
    cbv
    rewrite [h1]
    cbv
    rewrite [h3]
    cbv
    rewrite [e1]
    cbv
    rewrite [h4]
    cbv
    rewrite [e1]
    cbv
    rewrite [e3]
    cbv
    rewrite [e4]
    cbv
    rewrite [e5]
    cbv
    rewrite [h6]
    cbv
    rewrite [h7]
    cbv
    rewrite [h2]
    cbv
    rewrite [hr]
    cbv
  ·
    rw [lp_step (envV A) 6 (c0 := bd6) (lv := lvF6) rfl rfl]
    have hnle := hA.nleE; have hneq := hA.neqE
    have klt := hA.lt; have kle := hA.le; have keq := hA.eq; have knle := hA.nle; have kneq := hA.neq
    rw [lp_split (lpOf (envV A) 6 bd6) 8]
    generalize lpOf (envV A) 6 bd6 8 = L8 at e0 e1 e2 e3 e4 e5 h1 h2 h3 h4 h5 h6 h7 hr ⊢
    rw [lp_split (lpOf (envV A) 6 bd6) 18]
    generalize lpOf (envV A) 6 bd6 18 = L18 at e0 e1 e2 e3 e4 e5 h1 h2 h3 h4 h5 h6 h7 hr ⊢
    generalize lpOf (envV A) 6 bd6 = LP
    generalize evl (envV A) = E at e0 e1 e2 e3 e4 e5 h1 h2 h3 h4 h5 h6 h7 hr ⊢
    obtain ⟨aadd, asub, amul, arem, aquo, awr, ashr, aeq, alt, ale, aseq, aslt, acat, acut, asiz, aat, anle, aneq, afit⟩ := A
    simp only at hnle hneq
    subst hnle hneq
    simp only at klt kle keq knle kneq
    try simp only at h1 h2 h3 h4 h5 h6 h7 hr
    conv at e0 => lhs; cbv
    conv at e1 => lhs; cbv
    conv at e2 => lhs; cbv
    conv at e3 => lhs; cbv
    conv at e4 => lhs; cbv
    conv at e5 => lhs; cbv
    cbv
    rewrite [e0]
    cbv
    rewrite [h1]
    cbv
    rewrite [h3]
    cbv
    rewrite [h5]
    cbv
    rewrite [e1]
    cbv
    rewrite [h4]
    cbv
    rewrite [e1]
    cbv
    rewrite [e3]
    cbv
    rewrite [e4]
    cbv
    rewrite [e5]
    cbv
    rewrite [h6]
    cbv
    rewrite [h7]
    cbv
    rewrite [h2]
    cbv
    rewrite [hr]
    cbv
theorem lp_ane (e0 : ds.length = n) (h1 : A.lt (.ofNat i) (.ofNat n) = false) :
    lpOf (envV A) 6 bd6 8 (stN room ds gs (arO ss fs room rl) last i) = some (.code (.exit 0) (stNe room ds gs (arO ss fs room rl) last i)) := by
  unfold stN stNe arO
  rw [lp_step (envV A) 6 (c0 := bd6) (lv := lvF6) rfl rfl]
  have hnle := hA.nleE; have hneq := hA.neqE
  have klt := hA.lt; have kle := hA.le; have keq := hA.eq; have knle := hA.nle; have kneq := hA.neq
  generalize lpOf (envV A) 6 bd6 = LP
  generalize evl (envV A) = E at e0 h1 ⊢
  obtain ⟨aadd, asub, amul, arem, aquo, awr, ashr, aeq, alt, ale, aseq, aslt, acat, acut, asiz, aat, anle, aneq, afit⟩ := A
  simp only at hnle hneq
  subst hnle hneq
  simp only at klt kle keq knle kneq
  try simp only at h1
  conv at e0 => lhs; cbv
  cbv
  rewrite [e0]
  cbv
  rewrite [h1]
  cbv
theorem eq_an_no (h0 : evl (envV A) (.call 27 [] []) = some (.ret (.s (.bool true)) [])) (h1 : evl (envV A) (.call 28 [.s (.int .i64 room)] []) = some (.ret (.tup [.s (.pointer none), .s (.iface 45 (.int .i64 1))]) [])) :
    evl (envV A) (.call 6 [.s (.int .i64 room), .sl 1 ds .imm] []) = some (.ret (.s (.bool true)) []) := by
  rw [evl_fn (envV A) 6 _ _ (fn := Try.f6) (c := bd6) (lv := lvF6) rfl rfl rfl rfl rfl rfl]
  have hnle := hA.nleE; have hneq := hA.neqE
  have klt := hA.lt; have kle := hA.le; have keq := hA.eq; have knle := hA.nle; have kneq := hA.neq
  generalize lpOf (envV A) 6 bd6 = LP
  generalize evl (envV A) = E at h0 h1 ⊢
  obtain ⟨aadd, asub, amul, arem, aquo, awr, ashr, aeq, alt, ale, aseq, aslt, acat, acut, asiz, aat, anle, aneq, afit⟩ := A
  simp only at hnle hneq
  subst hnle hneq
  simp only at klt kle keq knle kneq
  try simp only at h0 h1
  cbv
  rewrite [h0]
  cbv
  rewrite [h1]
  cbv
theorem eq_an_many (h0 : evl (envV A) (.call 27 [] []) = some (.ret (.s (.bool true)) [])) (h1 : evl (envV A) (.call 28 [.s (.int .i64 room)] []) = some (.ret (.tup [.ptr 0 0, .s .nilIface]) [arO [] [] room 0])) (e0 : ds.length = n) (h2 : A.lt 150 (.ofNat n) = true) :
    evl (envV A) (.call 6 [.s (.int .i64 room), .sl 1 ds .imm] []) = some (.ret (.s (.bool true)) []) := by
  unfold arO at h1
  rw [evl_fn (envV A) 6 _ _ (fn := Try.f6) (c := bd6) (lv := lvF6) rfl rfl rfl rfl rfl rfl]
  have hnle := hA.nleE; have hneq := hA.neqE
  have klt := hA.lt; have kle := hA.le; have keq := hA.eq; have knle := hA.nle; have kneq := hA.neq
  generalize lpOf (envV A) 6 bd6 = LP
  generalize evl (envV A) = E at h0 h1 e0 h2 ⊢
  obtain ⟨aadd, asub, amul, arem, aquo, awr, ashr, aeq, alt, ale, aseq, aslt, acat, acut, asiz, aat, anle, aneq, afit⟩ := A
  simp only at hnle hneq
  subst hnle hneq
  simp only at klt kle keq knle kneq
  try simp only at h0 h1 h2
  conv at e0 => lhs; cbv
  cbv
  rewrite [h0]
  cbv
  rewrite [h1]
  cbv
  rewrite [e0]
  cbv
  rewrite [h2]
  cbv
theorem eq_an (h0 : evl (envV A) (.call 27 [] []) = some (.ret (.s (.bool true)) [])) (h1 : evl (envV A) (.call 28 [.s (.int .i64 room)] []) = some (.ret (.tup [.ptr 0 0, .s .nilIface]) [arO [] [] room 0])) (e0 : ds.length = n) (h2 : A.lt 150 (.ofNat n) = false)
    (h3 : lpOf (envV A) 6 bd6 8 (stN room ds [] (arO [] [] room 0) 0 0) = some (.code (.exit 0) (stNe room ds gs (arO ss fs room rl) last n)))
    (h4 : evl (envV A) (.call 33 [arV ss fs room rl] []) = some (.ret (.s (.int .i64 d)) [])) (h5 : A.le d room = true) :
    evl (envV A) (.call 6 [.s (.int .i64 room), .sl 1 ds .imm] []) = some (.ret (.s (.bool true)) []) := by
  unfold arO at h1; unfold stN stNe arO at h3; unfold arV at h4
  simp only [show Int.ofNat 0 = 0 from rfl] at h3
  rw [evl_fn (envV A) 6 _ _ (fn := Try.f6) (c := bd6) (lv := lvF6) rfl rfl rfl rfl rfl rfl]
  have hnle := hA.nleE; have hneq := hA.neqE
  have klt := hA.lt; have kle := hA.le; have keq := hA.eq; have knle := hA.nle; have kneq := hA.neq
  rw [lp_split (lpOf (envV A) 6 bd6) 8]
  generalize lpOf (envV A) 6 bd6 8 = L8 at h0 h1 e0 h2 h3 h4 h5 ⊢
  generalize lpOf (envV A) 6 bd6 = LP
  generalize evl (envV A) = E at h0 h1 e0 h2 h3 h4 h5 ⊢
  obtain ⟨aadd, asub, amul, arem, aquo, awr, ashr, aeq, alt, ale, aseq, aslt, acat, acut, asiz, aat, anle, aneq, afit⟩ := A
  simp only at hnle hneq
  subst hnle hneq
  simp only at klt kle keq knle kneq
  try simp only at h0 h1 h2 h3 h4 h5
  conv at e0 => lhs; cbv
  cbv
  rewrite [h0]
  cbv
  rewrite [h1]
  cbv
  rewrite [e0]
  cbv
  rewrite [h2]
  cbv
  rewrite [h3]
  cbv
  rewrite [h4]
  cbv
  rewrite [h5]
  cbv
end
end ArStr
end Go.Va
namespace Go.Va
open Go.Proofs
set_option maxRecDepth 100000
set_option maxHeartbeats 4000000
theorem s_law04_up : evl (envV realAr) (.call 27 [] []) = some (.ret (.s (.bool true)) []) := evl_of (n := 60) (by kernel_rfl)
abbrev intA (d : Int) : AV := .s (.int .i64 d)
namespace ArStr
theorem at_no {s : AS X} {l : List (Int × X)} (h : ArRel s l) {g : Int} (hg : ∀ p ∈ l, p.1 ≠ g) : atL g s.ss = none := by
  have := at_iff h g
  rw [find_none hg] at this
  simpa using this
theorem in_all (room : Int) (ds : List AV) (last : Int) (i : Nat) {s : AS X} {l : List (Int × X)} (h : ArRel s l) (hb : s.last ≤ 1000000) (gs : List Int) (hl : gs.length ≤ 1000000) (hg : ∀ g ∈ gs, ∀ p ∈ l, p.1 ≠ g) : ∀ (m k : Nat), m + k = gs.length →
    lpOf (envV realAr) 6 bd6 18 (stM room ds (gs.map intA) (obj s room) last i k) = some (.code (.exit 2) (stMe room ds (gs.map intA) (obj s room) last i gs.length))
  | 0, k, hk => by
    have : k = gs.length := by omega
    subst this
    exact lp_an_ine realAr realAr_ok _ _ ds _ gs.length i _ room last _ (mlen _ _) (nlt_f (Nat.le_refl _))
  | m + 1, k, hk => by
    have hkl : k < gs.length := by omega
    have ha := at_no h (hg gs[k] (List.getElem_mem hkl))
    have q1 := s_Get room h hb gs[k]
    have q2 := s_Set room h hb gs[k] ⟨#[121]⟩
    have q3 := s_Drop room h hb gs[k]
    unfold AS.get at q1
    rw [ha] at q1 q2 q3
    exact lp_an_in realAr realAr_ok _ _ ds _ gs.length i k room last gs[k] _ _ rfl (mlen _ _) (mget _ _ hkl) (hble hkl) (Nat.zero_add _) (nlt_t hkl) (ninc (by omega)) q1 q2 q3 (in_all room ds last i h hb gs hl hg m (k + 1) (by omega))
theorem put_any (room : Int) {s : AS X} {l : List (Int × X)} (h : ArRel s l) (hb : s.last ≤ 1000) (hr : (l.length : Int) ≤ room) (x : X) : ∃ (s1 : AS X) (l1 : List (Int × X)) (f : Bool) (id : Int),
    evl (envV realAr) (.call 29 [.ptr 0 0, av x] [obj s room]) = some (.ret (.tup [.s (.int .i64 id), bif f then .s .nilIface else .s (.iface 45 (.int .i64 6))]) [obj s1 room]) ∧
    ArRel s1 l1 ∧ s1.last ≤ s.last + 1 ∧ s.last ≤ s1.last ∧ (l1.length : Int) ≤ room ∧ (bif f then realAr.le id (.ofNat s.last) else false) = false ∧ (bif f then id else .ofNat s.last) = .ofNat s1.last ∧ ∀ p ∈ l1, p ∈ l ∨ p.1 = (s.last : Int) + 1 := by
  by_cases q : (l.length : Int) < room
  · refine ⟨s.put x, _, true, _, s_Put room h (by omega) x q, put_rel h x, ?_, ?_, ?_, hle_f ?_, ?_, ?_⟩
    · unfold AS.put
      cases s.fs.getLast? <;> exact Nat.le_refl _
    · unfold AS.put
      cases s.fs.getLast? <;> exact Nat.le_succ _
    · simp
      omega
    · show ((s.last : Nat) : Int) < ((s.last + 1 : Nat) : Int)
      omega
    · unfold AS.put
      cases s.fs.getLast? <;> rfl
    · intro p hp
      rcases List.mem_append.1 hp with k | k
      · exact .inl k
      · simp at k
        right
        rw [k]
  · exact ⟨s, l, false, 0, s_Put_full room h (by omega) x (by omega), h, Nat.le_succ _, Nat.le_refl _, hr, rfl, rfl, fun p hp => .inl hp⟩
theorem drop_any (room : Int) {s : AS X} {l : List (Int × X)} (h : ArRel s l) (hb : s.last ≤ 1000) (d : Int) : ∃ (s1 : AS X) (l1 : List (Int × X)) (b : Bool),
    evl (envV realAr) (.call 30 [.ptr 0 0, .s (.int .i64 d)] [obj s room]) = some (.ret (.s (.bool b)) [obj s1 room]) ∧
    ArRel s1 l1 ∧ s1.last = s.last ∧ l1.length ≤ l.length ∧ (∀ p ∈ l1, p ∈ l) ∧ (b = true → d ≤ s.last ∧ ∀ p ∈ l1, p.1 ≠ d) := by
  have q := s_Drop room h (by omega) d
  cases ha : atL d s.ss with
  | none =>
    rw [ha] at q
    exact ⟨s, l, false, q, h, rfl, Nat.le_refl _, fun p hp => hp, fun e => by cases e⟩
  | some i =>
    rw [ha] at q
    obtain ⟨h1, x, h2⟩ := at_some ha
    refine ⟨_, _, true, q, drop_rel h h2 h1 zx, rfl, List.length_filter_le _ _, fun p hp => (List.mem_filter.1 hp).1, fun _ => ⟨(h.pos _ (rel_mem h h2 h1)).2, fun p hp => by simpa using (List.mem_filter.1 hp).2⟩⟩
theorem out_all (room : Int) (ds : List Int) (hd : ds.length ≤ 150) : ∀ (m i : Nat) (s : AS X) (l : List (Int × X)) (gs : List Int), m + i = ds.length → ArRel s l → s.last ≤ i → (l.length : Int) ≤ room → gs.length ≤ i → (∀ g ∈ gs, g ≤ s.last ∧ ∀ p ∈ l, p.1 ≠ g) →
    ∃ (s2 : AS X) (l2 : List (Int × X)) (gs2 : List Int), lpOf (envV realAr) 6 bd6 8 (stN room (ds.map intA) (gs.map intA) (obj s room) (.ofNat s.last) i) = some (.code (.exit 0) (stNe room (ds.map intA) (gs2.map intA) (obj s2 room) (.ofNat s2.last) ds.length)) ∧ ArRel s2 l2 ∧ s2.last ≤ 1000 ∧ (l2.length : Int) ≤ room
  | 0, i, s, l, gs, hi, h, hs, hr, hgl, hg => by
    have : i = ds.length := by omega
    subst this
    exact ⟨s, l, gs, lp_ane realAr realAr_ok _ _ _ _ ds.length _ room _ _ (mlen _ _) (nlt_f (Nat.le_refl _)), h, by omega, hr⟩
  | m + 1, i, s, l, gs, hi, h, hs, hr, hgl, hg => by
    have hil : i < ds.length := by omega
    obtain ⟨s1, l1, f, id, p1, p2, p3, p4, p5, p6, p7, p8⟩ := put_any room h (by omega) hr ⟨#[120]⟩
    obtain ⟨s2, l2, b, d1, d2, d3, d4, d5, d6⟩ := drop_any room p2 (by omega) ds[i]
    have hg2 : ∀ g ∈ (bif b then gs ++ [ds[i]] else gs), g ≤ s2.last ∧ ∀ p ∈ l2, p.1 ≠ g := by
      have old : ∀ g ∈ gs, g ≤ s2.last ∧ ∀ p ∈ l2, p.1 ≠ g := by
        intro g hm
        obtain ⟨k1, k2⟩ := hg g hm
        refine ⟨by omega, fun p hp => ?_⟩
        rcases p8 p (d5 p hp) with k | k
        · exact k2 p k
        · omega
      cases b with
      | false => exact old
      | true =>
        intro g hm
        rcases List.mem_append.1 hm with k | k
        · exact old g k
        · simp at k
          subst k
          obtain ⟨k1, k2⟩ := d6 rfl
          exact ⟨by omega, k2⟩
    have hlen : (bif b then gs ++ [ds[i]] else gs).length ≤ i + 1 := by
      cases b
      · exact Nat.le_succ_of_le hgl
      · simp
        omega
    have hq : (bif b then (gs ++ [ds[i]]).map intA else gs.map intA) = (bif b then gs ++ [ds[i]] else gs).map intA := by cases b <;> rfl
    obtain ⟨s3, l3, gs3, r1, r2, r3, r4⟩ := out_all room ds hd m (i + 1) s2 l2 _ (by omega) d2 (by omega) (by omega) hlen hg2
    have hin := in_all room (ds.map intA) (.ofNat s1.last) i d2 (by omega) _ (by omega) (fun g hm => (hg2 g hm).2) (bif b then gs ++ [ds[i]] else gs).length 0 (by omega)
    have eo : obj s2 room = arO (s2.ss.map slotA) (s2.fs.map freeA) room (.ofNat s1.last) := by unfold obj; rw [d3]
    rw [eo] at d1 hin r1
    rw [d3] at r1
    refine ⟨s3, l3, gs3, ?_, r2, r3, r4⟩
    refine lp_an realAr realAr_ok _ _ (s1.ss.map slotA) (s1.fs.map freeA) (s2.ss.map slotA) (s2.fs.map freeA) (ds.map intA) (gs.map intA) ds.length gs.length i (bif b then gs ++ [ds[i]] else gs).length room (.ofNat s.last) (.ofNat s1.last) id ds[i] _ b f ((gs ++ [ds[i]]).map intA) (mlen _ _) (mget _ _ hil) (hble hil) (nlt_t hil) (ninc (by omega)) p1 ?_ p6 (mlen _ _) (msnoc _ _ _) (hbeq _) (hfit (by rw [Nat.succ_eq_add_one]; omega)) ?_ ?_
    · exact d1
    · rw [hq, p7]
      exact hin
    · rw [hq, p7]
      exact r1
theorem arenaNever_law (room : Int) (ds : List Int) : evl (envV realAr) (.call 6 [.s (.int .i64 room), .sl 1 (ds.map intA) .imm] []) = some (.ret (.s (.bool true)) []) := by
  by_cases h1 : room < 1 ∨ 200 < room
  · exact eq_an_no realAr realAr_ok _ room s_law04_up (s_New_no room h1)
  · have hn := s_New room (by omega) (by omega)
    by_cases h2 : 150 < ds.length
    · exact eq_an_many realAr realAr_ok _ ds.length room s_law04_up hn (mlen _ _) (hlt_t (by simp; omega))
    · obtain ⟨s2, l2, gs2, r1, r2, r3, r4⟩ := out_all room ds (by omega) ds.length 0 ⟨[], [], 0⟩ [] [] (by omega) new_rel (Nat.zero_le _) (by simp; omega) (Nat.zero_le _) (by simp)
      exact eq_an realAr realAr_ok _ _ _ (gs2.map intA) ds.length room _ _ _ s_law04_up hn (mlen _ _) (hlt_f (by simp; omega)) r1 (s_Live room r2 (by omega)) (hle_t r4)
end ArStr
end Go.Va
