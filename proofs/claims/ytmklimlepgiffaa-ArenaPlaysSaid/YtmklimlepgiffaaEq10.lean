/- The functions that the statement reaches, by equations: no statement of its own. -/
import Derived.Test.YtmklimlepgiffaaEq9
set_option linter.unusedVariables false
set_option linter.unusedSimpArgs false
set_option linter.unusedSectionVars false
namespace Go.Va
open Go.Proofs
set_option maxRecDepth 100000
set_option maxHeartbeats 4000000
namespace ArInt
theorem eq_Pick_n (A : Ar) (hA : ArOk A) (x y z m : Int) (h1 : A.lt x 0 = true) (h2 : A.add .i64 x 1 = y) (h3 : A.sub .i64 0 y = z) (h4 : A.rem z 8 = m) : evl (envV A) (.call 35 [.s (.int .i64 x), .s (.int .i64 8)] []) = some (.ret (.s (.int .i64 m)) []) := by
  rw [evl_fn (envV A) 35 _ _ (fn := Try.f35) (c := bd35) (lv := lvF35) rfl rfl rfl rfl rfl rfl]
  have hnle := hA.nleE; have hneq := hA.neqE
  have klt := hA.lt; have kle := hA.le; have keq := hA.eq; have knle := hA.nle; have kneq := hA.neq
  generalize lpOf (envV A) 35 bd35 = LP
  generalize evl (envV A) = E at h1 h2 h3 h4 ⊢
  obtain ⟨aadd, asub, amul, arem, aquo, awr, ashr, aeq, alt, ale, aseq, aslt, acat, acut, asiz, aat, anle, aneq, afit⟩ := A
  simp only at hnle hneq
  subst hnle hneq
  simp only at klt kle keq knle kneq
  try simp only at h1 h2 h3 h4
  cbv
  rewrite [h1]
  cbv
  rewrite [h2]
  cbv
  rewrite [h3]
  cbv
  rewrite [h4]
  cbv
  rewrite [keq (8) (0)]
  cbv
theorem eq_Pick_p (A : Ar) (hA : ArOk A) (x m : Int) (h1 : A.lt x 0 = false) (h4 : A.rem x 8 = m) : evl (envV A) (.call 35 [.s (.int .i64 x), .s (.int .i64 8)] []) = some (.ret (.s (.int .i64 m)) []) := by
  rw [evl_fn (envV A) 35 _ _ (fn := Try.f35) (c := bd35) (lv := lvF35) rfl rfl rfl rfl rfl rfl]
  have hnle := hA.nleE; have hneq := hA.neqE
  have klt := hA.lt; have kle := hA.le; have keq := hA.eq; have knle := hA.nle; have kneq := hA.neq
  generalize lpOf (envV A) 35 bd35 = LP
  generalize evl (envV A) = E at h1 h4 ⊢
  obtain ⟨aadd, asub, amul, arem, aquo, awr, ashr, aeq, alt, ale, aseq, aslt, acat, acut, asiz, aat, anle, aneq, afit⟩ := A
  simp only at hnle hneq
  subst hnle hneq
  simp only at klt kle keq knle kneq
  try simp only at h1 h4
  cbv
  rewrite [h1]
  cbv
  rewrite [h4]
  cbv
  rewrite [keq (8) (0)]
  cbv
theorem s_Code (e : AV) (n : Int) (h : (e = .s .nilIface ∧ n = 0) ∨ (e = .s (.iface 45 (.int .i64 6)) ∧ n = 6)) : evl (envV realAr) (.call 37 [e] []) = some (.ret (.s (.int .i64 n)) []) := by
  rcases h with ⟨rfl, rfl⟩ | ⟨rfl, rfl⟩ <;> exact evl_of (n := 60) (by kernel_rfl)
def xC (w d x : Int) : List AV := [.s (.int .i64 w), .s (.int .i64 d), .s (.int .i64 x)]
def stL (room : Int) (ds is ms : List AV) (nx : Int) (O : Seg) (j i : Nat) : St := { n := 262, k := 0, fr := [(0, .s (.int .i64 room)), (1, .sl 3 ds .imm), (5, .s (.bool true)), (6, .ptr j 0), (8, .sl 1 is .full), (9, .sl 1 ms .full), (10, .s (.int .i64 nx)), (11, .s (.int .i64 (.ofNat i)))], O := O }
def stF (room : Int) (ds is ms : List AV) (nx : Int) (O : Seg) (j i : Nat) (at_ : Int) (k : Nat) : St := { n := 262, k := 0, fr := [(0, .s (.int .i64 room)), (1, .sl 3 ds .imm), (5, .s (.bool true)), (6, .ptr j 0), (8, .sl 1 is .full), (9, .sl 1 ms .full), (10, .s (.int .i64 nx)), (11, .s (.int .i64 (.ofNat i))), (12, .ptr (Nat.succ j) 0), (13, .s (.int .i64 at_)), (14, .s (.int .i64 (.ofNat k)))], O := O }
section
variable (A : Ar) (hA : ArOk A) (ss fs ss1 fs1 ss2 fs2 ds is ms : List AV) (n m i j k : Nat) (room last l2 id d g rl nx at_ w x y : Int) (O : Seg)
include hA
theorem lp_apF {r : Option Res} (e0 : is.length = m) (e1 : lget is k = some (.s (.int .i64 g))) (e2 : Nat.ble (Nat.succ k) m = true) (e3 : 0 + k = k) (e4 : lget O (Nat.succ j) = some [.s (.int .i64 w), .s (.int .i64 d), .s (.int .i64 x)]) (e5 : O.length = Nat.succ (Nat.succ j)) (e_b00 : Nat.beq (j) (j) = true) (e_b01 : Nat.beq (j) (Nat.succ j) = false) (e_b02 : Nat.beq (j) (Nat.succ (Nat.succ j)) = false) (e_b10 : Nat.beq (Nat.succ j) (j) = false) (e_b11 : Nat.beq (Nat.succ j) (Nat.succ j) = true) (e_b12 : Nat.beq (Nat.succ j) (Nat.succ (Nat.succ j)) = false) (e_b20 : Nat.beq (Nat.succ (Nat.succ j)) (j) = false) (e_b21 : Nat.beq (Nat.succ (Nat.succ j)) (Nat.succ j) = false) (e_b22 : Nat.beq (Nat.succ (Nat.succ j)) (Nat.succ (Nat.succ j)) = true) (h1 : A.lt (.ofNat k) (.ofNat m) = true) (h2 : A.add .i64 (.ofNat k) 1 = .ofNat (Nat.succ k))
    (hr : lpOf (envV A) 7 bd7 16 (stF room ds is ms nx O j i (bif A.eq g d then (.ofNat k) else at_) (Nat.succ k)) = r) :
    lpOf (envV A) 7 bd7 16 (stF room ds is ms nx O j i at_ k) = r := by
  unfold stF at hr ⊢
  cases hq : A.eq g d <;> rw [hq] at hr <;> simp only [cond_true, cond_false] at hr
  ·
    rw [lp_step (envV A) 7 (c0 := bd7) (lv := lvF7) rfl rfl]
    have hnle := hA.nleE; have hneq := hA.neqE
    have klt := hA.lt; have kle := hA.le; have keq := hA.eq; have knle := hA.nle; have kneq := hA.neq
    rw [lp_split (lpOf (envV A) 7 bd7) 16]
    generalize lpOf (envV A) 7 bd7 16 = L16 at e0 e1 e2 e3 e4 e5 e_b00 e_b01 e_b02 e_b10 e_b11 e_b12 e_b20 e_b21 e_b22 h1 h2 hr hq ⊢
    generalize lpOf (envV A) 7 bd7 = LP
    generalize evl (envV A) = E at e0 e1 e2 e3 e4 e5 e_b00 e_b01 e_b02 e_b10 e_b11 e_b12 e_b20 e_b21 e_b22 h1 h2 hr hq ⊢
    obtain ⟨aadd, asub, amul, arem, aquo, awr, ashr, aeq, alt, ale, aseq, aslt, acat, acut, asiz, aat, anle, aneq, afit⟩ := A
    simp only at hnle hneq
    subst hnle hneq
    simp only at klt kle keq knle kneq
    try simp only at h1 h2 hr hq
    conv at e0 => lhs; cbv
    conv at e1 => lhs; cbv
    conv at e2 => lhs; cbv
    conv at e3 => lhs; cbv
    conv at e4 => lhs; cbv
    conv at e5 => lhs; cbv
    conv at e_b00 => lhs; cbv
    conv at e_b01 => lhs; cbv
    conv at e_b02 => lhs; cbv
    conv at e_b10 => lhs; cbv
    conv at e_b11 => lhs; cbv
    conv at e_b12 => lhs; cbv
    conv at e_b20 => lhs; cbv
    conv at e_b21 => lhs; cbv
    conv at e_b22 => lhs; cbv
    cbv
    rewrite [e0]
    cbv
    rewrite [e5]
    cbv
    rewrite [h1]
    cbv
    rewrite [e0]
    cbv
    rewrite [e2]
    cbv
    rewrite [e3]
    cbv
    rewrite [e1]
    cbv
    rewrite [e5]
    cbv
    rewrite [e_b00]
    cbv
    rewrite [e_b01]
    cbv
    rewrite [e_b10]
    cbv
    rewrite [e4]
    cbv
    rewrite [e5]
    cbv
    rewrite [hq]
    cbv
    rewrite [e5]
    cbv
    rewrite [e_b00]
    cbv
    rewrite [e_b01]
    cbv
    rewrite [e_b10]
    cbv
    rewrite [h2]
    cbv
    conv in (L16 _) => arg 1; cbv
    cbv
    rewrite [e_b00]
    cbv
    rewrite [e5]
    cbv
    conv in (L16 _) => arg 1; cbv
    cbv
    rewrite [e5]
    cbv
    rewrite [e_b00]
    cbv
    rewrite [e_b01]
    cbv
    rewrite [e_b10]
    cbv
    conv in (L16 _) => arg 1; cbv
    cbv
    rewrite [e_b00]
    cbv
    rewrite [hr]
    cbv
  ·
    rw [lp_step (envV A) 7 (c0 := bd7) (lv := lvF7) rfl rfl]
    have hnle := hA.nleE; have hneq := hA.neqE
    have klt := hA.lt; have kle := hA.le; have keq := hA.eq; have knle := hA.nle; have kneq := hA.neq
    rw [lp_split (lpOf (envV A) 7 bd7) 16]
    generalize lpOf (envV A) 7 bd7 16 = L16 at e0 e1 e2 e3 e4 e5 e_b00 e_b01 e_b02 e_b10 e_b11 e_b12 e_b20 e_b21 e_b22 h1 h2 hr hq ⊢
    generalize lpOf (envV A) 7 bd7 = LP
    generalize evl (envV A) = E at e0 e1 e2 e3 e4 e5 e_b00 e_b01 e_b02 e_b10 e_b11 e_b12 e_b20 e_b21 e_b22 h1 h2 hr hq ⊢
    obtain ⟨aadd, asub, amul, arem, aquo, awr, ashr, aeq, alt, ale, aseq, aslt, acat, acut, asiz, aat, anle, aneq, afit⟩ := A
    simp only at hnle hneq
    subst hnle hneq
    simp only at klt kle keq knle kneq
    try simp only at h1 h2 hr hq
    conv at e0 => lhs; cbv
    conv at e1 => lhs; cbv
    conv at e2 => lhs; cbv
    conv at e3 => lhs; cbv
    conv at e4 => lhs; cbv
    conv at e5 => lhs; cbv
    conv at e_b00 => lhs; cbv
    conv at e_b01 => lhs; cbv
    conv at e_b02 => lhs; cbv
    conv at e_b10 => lhs; cbv
    conv at e_b11 => lhs; cbv
    conv at e_b12 => lhs; cbv
    conv at e_b20 => lhs; cbv
    conv at e_b21 => lhs; cbv
    conv at e_b22 => lhs; cbv
    cbv
    rewrite [e0]
    cbv
    rewrite [e5]
    cbv
    rewrite [h1]
    cbv
    rewrite [e0]
    cbv
    rewrite [e2]
    cbv
    rewrite [e3]
    cbv
    rewrite [e1]
    cbv
    rewrite [e5]
    cbv
    rewrite [e_b00]
    cbv
    rewrite [e_b01]
    cbv
    rewrite [e_b10]
    cbv
    rewrite [e4]
    cbv
    rewrite [e5]
    cbv
    rewrite [hq]
    cbv
    rewrite [e5]
    cbv
    rewrite [e_b00]
    cbv
    rewrite [e_b01]
    cbv
    rewrite [e_b10]
    cbv
    rewrite [h2]
    cbv
    conv in (L16 _) => arg 1; cbv
    cbv
    rewrite [e_b00]
    cbv
    rewrite [e5]
    cbv
    conv in (L16 _) => arg 1; cbv
    cbv
    rewrite [e5]
    cbv
    rewrite [e_b00]
    cbv
    rewrite [e_b01]
    cbv
    rewrite [e_b10]
    cbv
    conv in (L16 _) => arg 1; cbv
    cbv
    rewrite [e_b00]
    cbv
    rewrite [e5]
    cbv
    conv in (L16 _) => arg 1; cbv
    cbv
    rewrite [e5]
    cbv
    rewrite [e_b00]
    cbv
    rewrite [e_b01]
    cbv
    rewrite [e_b10]
    cbv
    conv in (L16 _) => arg 1; cbv
    cbv
    rewrite [e_b00]
    cbv
    rewrite [hr]
    cbv
end
end ArInt
end Go.Va
namespace Go.Va
open Go.Proofs
set_option maxRecDepth 100000
set_option maxHeartbeats 4000000
namespace ArInt
def stFe (room : Int) (ds is ms : List AV) (nx : Int) (O : Seg) (j i : Nat) (at_ : Int) (k : Nat) : St := { n := 262, k := 0, fr := [(0, .s (.int .i64 room)), (1, .sl 3 ds .imm), (5, .s (.bool true)), (6, .ptr j 0), (8, .sl 1 is .full), (9, .sl 1 ms .full), (10, .s (.int .i64 nx)), (11, .s (.int .i64 (.ofNat i))), (12, .ptr (Nat.succ j) 0), (13, .s (.int .i64 at_)), (14, .s (.int .i64 (.ofNat k))), (80, .s (.bool false))], O := O }
def stC (room : Int) (ds is ms : List AV) (nx : Int) (O : Seg) (j i k : Nat) : St := { n := 262, k := 0, fr := [(0, .s (.int .i64 room)), (1, .sl 3 ds .imm), (5, .s (.bool true)), (6, .ptr j 0), (8, .sl 1 is .full), (9, .sl 1 ms .full), (10, .s (.int .i64 nx)), (11, .s (.int .i64 (.ofNat i))), (18, .s (.int .i64 (.ofNat k)))], O := O }
def stCe (room : Int) (ds is ms : List AV) (nx : Int) (O : Seg) (j i k : Nat) : St := { n := 262, k := 0, fr := [(0, .s (.int .i64 room)), (1, .sl 3 ds .imm), (5, .s (.bool true)), (6, .ptr j 0), (8, .sl 1 is .full), (9, .sl 1 ms .full), (10, .s (.int .i64 nx)), (11, .s (.int .i64 (.ofNat i))), (18, .s (.int .i64 (.ofNat k))), (216, .s (.bool false))], O := O }
def stLe (room : Int) (ds is ms : List AV) (nx : Int) (O : Seg) (j i : Nat) : St := { n := 262, k := 0, fr := [(0, .s (.int .i64 room)), (1, .sl 3 ds .imm), (5, .s (.bool true)), (6, .ptr j 0), (8, .sl 1 is .full), (9, .sl 1 ms .full), (10, .s (.int .i64 nx)), (11, .s (.int .i64 (.ofNat i))), (70, .s (.bool false))], O := O }
section
variable (A : Ar) (hA : ArOk A) (ss fs ss1 fs1 ss2 fs2 ds is ms : List AV) (n m i j k : Nat) (room last l2 id d g rl nx at_ w x y : Int) (O : Seg)
include hA
theorem lp_apFe (e0 : is.length = m) (e5 : O.length = Nat.succ (Nat.succ j)) (e_b00 : Nat.beq (j) (j) = true) (e_b01 : Nat.beq (j) (Nat.succ j) = false) (e_b02 : Nat.beq (j) (Nat.succ (Nat.succ j)) = false) (e_b10 : Nat.beq (Nat.succ j) (j) = false) (e_b11 : Nat.beq (Nat.succ j) (Nat.succ j) = true) (e_b12 : Nat.beq (Nat.succ j) (Nat.succ (Nat.succ j)) = false) (e_b20 : Nat.beq (Nat.succ (Nat.succ j)) (j) = false) (e_b21 : Nat.beq (Nat.succ (Nat.succ j)) (Nat.succ j) = false) (e_b22 : Nat.beq (Nat.succ (Nat.succ j)) (Nat.succ (Nat.succ j)) = true) (h1 : A.lt (.ofNat k) (.ofNat m) = false) :
    lpOf (envV A) 7 bd7 16 (stF room ds is ms nx O j i at_ k) = some (.code (.exit 2) (stFe room ds is ms nx O j i at_ k)) := by
  unfold stF stFe
  rw [lp_step (envV A) 7 (c0 := bd7) (lv := lvF7) rfl rfl]
  have hnle := hA.nleE; have hneq := hA.neqE
  have klt := hA.lt; have kle := hA.le; have keq := hA.eq; have knle := hA.nle; have kneq := hA.neq
  generalize lpOf (envV A) 7 bd7 = LP
  generalize evl (envV A) = E at e0 e5 e_b00 e_b01 e_b02 e_b10 e_b11 e_b12 e_b20 e_b21 e_b22 h1 ⊢
  obtain ⟨aadd, asub, amul, arem, aquo, awr, ashr, aeq, alt, ale, aseq, aslt, acat, acut, asiz, aat, anle, aneq, afit⟩ := A
  simp only at hnle hneq
  subst hnle hneq
  simp only at klt kle keq knle kneq
  try simp only at h1
  conv at e0 => lhs; cbv
  conv at e5 => lhs; cbv
  conv at e_b00 => lhs; cbv
  conv at e_b01 => lhs; cbv
  conv at e_b02 => lhs; cbv
  conv at e_b10 => lhs; cbv
  conv at e_b11 => lhs; cbv
  conv at e_b12 => lhs; cbv
  conv at e_b20 => lhs; cbv
  conv at e_b21 => lhs; cbv
  conv at e_b22 => lhs; cbv
  cbv
  rewrite [e0]
  cbv
  rewrite [e5]
  cbv
  rewrite [h1]
  cbv
  rewrite [e5]
  cbv
  rewrite [e_b00]
  cbv
  rewrite [e_b01]
  cbv
  rewrite [e_b10]
  cbv
theorem lp_apC {r : Option Res} (e0 : is.length = m) (e1 : lget is k = some (.s (.int .i64 g))) (e2 : Nat.ble (Nat.succ k) m = true) (e3 : 0 + k = k) (e4 : lget O j = some [.sl 2 ss .full, .sl 1 fs .full, .s (.int .i64 room), .s (.int .i64 rl)]) (e5 : O.length = Nat.succ j) (e_nil : O ++ [] = O) (e_b00 : Nat.beq (j) (j) = true) (e_b01 : Nat.beq (j) (Nat.succ j) = false) (e_b02 : Nat.beq (j) (Nat.succ (Nat.succ j)) = false) (e_b10 : Nat.beq (Nat.succ j) (j) = false) (e_b11 : Nat.beq (Nat.succ j) (Nat.succ j) = true) (e_b12 : Nat.beq (Nat.succ j) (Nat.succ (Nat.succ j)) = false) (e_b20 : Nat.beq (Nat.succ (Nat.succ j)) (j) = false) (e_b21 : Nat.beq (Nat.succ (Nat.succ j)) (Nat.succ j) = false) (e_b22 : Nat.beq (Nat.succ (Nat.succ j)) (Nat.succ (Nat.succ j)) = true)
    (e6 : ms.length = m) (e7 : lget ms k = some (.s (.int .i64 x))) (h1 : A.lt (.ofNat k) (.ofNat m) = true) (h2 : A.add .i64 (.ofNat k) 1 = .ofNat (Nat.succ k)) (h3 : A.eq x x = true)
    (h4 : evl (envV A) (.call 44 [arV ss fs room rl, .s (.int .i64 g)] []) = some (.ret (.tup [.s (.int .i64 x), .s (.bool true)]) []))
    (hr : lpOf (envV A) 7 bd7 54 (stC room ds is ms nx O j i (Nat.succ k)) = r) :
    lpOf (envV A) 7 bd7 54 (stC room ds is ms nx O j i k) = r := by
  unfold stC at hr ⊢; unfold arV at h4
  rw [lp_step (envV A) 7 (c0 := bd7) (lv := lvF7) rfl rfl]
  have hnle := hA.nleE; have hneq := hA.neqE
  have klt := hA.lt; have kle := hA.le; have keq := hA.eq; have knle := hA.nle; have kneq := hA.neq
  rw [lp_split (lpOf (envV A) 7 bd7) 54]
  generalize lpOf (envV A) 7 bd7 54 = L54 at e0 e1 e2 e3 e4 e5 e_nil e_b00 e_b01 e_b02 e_b10 e_b11 e_b12 e_b20 e_b21 e_b22 e6 e7 h1 h2 h3 h4 hr ⊢
  generalize lpOf (envV A) 7 bd7 = LP
  generalize evl (envV A) = E at e0 e1 e2 e3 e4 e5 e_nil e_b00 e_b01 e_b02 e_b10 e_b11 e_b12 e_b20 e_b21 e_b22 e6 e7 h1 h2 h3 h4 hr ⊢
  obtain ⟨aadd, asub, amul, arem, aquo, awr, ashr, aeq, alt, ale, aseq, aslt, acat, acut, asiz, aat, anle, aneq, afit⟩ := A
  simp only at hnle hneq
  subst hnle hneq
  simp only at klt kle keq knle kneq
  try simp only at h1 h2 h3 h4 hr
  conv at e0 => lhs; cbv
  conv at e1 => lhs; cbv
  conv at e2 => lhs; cbv
  conv at e3 => lhs; cbv
  conv at e4 => lhs; cbv
  conv at e5 => lhs; cbv
  conv at e_nil => lhs; cbv
  conv at e_b00 => lhs; cbv
  conv at e_b01 => lhs; cbv
  conv at e_b02 => lhs; cbv
  conv at e_b10 => lhs; cbv
  conv at e_b11 => lhs; cbv
  conv at e_b12 => lhs; cbv
  conv at e_b20 => lhs; cbv
  conv at e_b21 => lhs; cbv
  conv at e_b22 => lhs; cbv
  conv at e6 => lhs; cbv
  conv at e7 => lhs; cbv
  cbv
  rewrite [e0]
  cbv
  rewrite [e5]
  cbv
  rewrite [h1]
  cbv
  rewrite [e0]
  cbv
  rewrite [e2]
  cbv
  rewrite [e3]
  cbv
  rewrite [e1]
  cbv
  rewrite [e5]
  cbv
  rewrite [e_b00]
  cbv
  rewrite [e4]
  cbv
  rewrite [e_b00]
  cbv
  rewrite [h4]
  cbv
  rewrite [e3]
  cbv
  rewrite [e_nil]
  cbv
  rewrite [e5]
  cbv
  rewrite [e6]
  cbv
  rewrite [e2]
  cbv
  rewrite [e5]
  cbv
  rewrite [e_b00]
  cbv
  rewrite [e7]
  cbv
  rewrite [e_b00]
  cbv
  rewrite [e5]
  cbv
  rewrite [h3]
  cbv
  rewrite [e5]
  cbv
  rewrite [e_b00]
  cbv
  rewrite [h2]
  cbv
  conv in (L54 _) => arg 1; cbv
  cbv
  rewrite [e_b00]
  cbv
  rewrite [e5]
  cbv
  conv in (L54 _) => arg 1; cbv
  cbv
  rewrite [e5]
  cbv
  rewrite [e_b00]
  cbv
  conv in (L54 _) => arg 1; cbv
  cbv
  rewrite [e_b00]
  cbv
  rewrite [hr]
  cbv
theorem lp_apCe (e0 : is.length = m) (e5 : O.length = Nat.succ j) (e_b00 : Nat.beq (j) (j) = true) (e_b01 : Nat.beq (j) (Nat.succ j) = false) (e_b02 : Nat.beq (j) (Nat.succ (Nat.succ j)) = false) (e_b10 : Nat.beq (Nat.succ j) (j) = false) (e_b11 : Nat.beq (Nat.succ j) (Nat.succ j) = true) (e_b12 : Nat.beq (Nat.succ j) (Nat.succ (Nat.succ j)) = false) (e_b20 : Nat.beq (Nat.succ (Nat.succ j)) (j) = false) (e_b21 : Nat.beq (Nat.succ (Nat.succ j)) (Nat.succ j) = false) (e_b22 : Nat.beq (Nat.succ (Nat.succ j)) (Nat.succ (Nat.succ j)) = true) (h1 : A.lt (.ofNat k) (.ofNat m) = false) :
    lpOf (envV A) 7 bd7 54 (stC room ds is ms nx O j i k) = some (.code (.exit 5) (stCe room ds is ms nx O j i k)) := by
  unfold stC stCe
  rw [lp_step (envV A) 7 (c0 := bd7) (lv := lvF7) rfl rfl]
  have hnle := hA.nleE; have hneq := hA.neqE
  have klt := hA.lt; have kle := hA.le; have keq := hA.eq; have knle := hA.nle; have kneq := hA.neq
  generalize lpOf (envV A) 7 bd7 = LP
  generalize evl (envV A) = E at e0 e5 e_b00 e_b01 e_b02 e_b10 e_b11 e_b12 e_b20 e_b21 e_b22 h1 ⊢
  obtain ⟨aadd, asub, amul, arem, aquo, awr, ashr, aeq, alt, ale, aseq, aslt, acat, acut, asiz, aat, anle, aneq, afit⟩ := A
  simp only at hnle hneq
  subst hnle hneq
  simp only at klt kle keq knle kneq
  try simp only at h1
  conv at e0 => lhs; cbv
  conv at e5 => lhs; cbv
  conv at e_b00 => lhs; cbv
  conv at e_b01 => lhs; cbv
  conv at e_b02 => lhs; cbv
  conv at e_b10 => lhs; cbv
  conv at e_b11 => lhs; cbv
  conv at e_b12 => lhs; cbv
  conv at e_b20 => lhs; cbv
  conv at e_b21 => lhs; cbv
  conv at e_b22 => lhs; cbv
  cbv
  rewrite [e0]
  cbv
  rewrite [e5]
  cbv
  rewrite [h1]
  cbv
  rewrite [e5]
  cbv
  rewrite [e_b00]
  cbv
theorem lp_apLe (e0 : ds.length = n) (e5 : O.length = Nat.succ j) (e_b00 : Nat.beq (j) (j) = true) (e_b01 : Nat.beq (j) (Nat.succ j) = false) (e_b02 : Nat.beq (j) (Nat.succ (Nat.succ j)) = false) (e_b10 : Nat.beq (Nat.succ j) (j) = false) (e_b11 : Nat.beq (Nat.succ j) (Nat.succ j) = true) (e_b12 : Nat.beq (Nat.succ j) (Nat.succ (Nat.succ j)) = false) (e_b20 : Nat.beq (Nat.succ (Nat.succ j)) (j) = false) (e_b21 : Nat.beq (Nat.succ (Nat.succ j)) (Nat.succ j) = false) (e_b22 : Nat.beq (Nat.succ (Nat.succ j)) (Nat.succ (Nat.succ j)) = true) (h1 : A.lt (.ofNat i) (.ofNat n) = false) :
    lpOf (envV A) 7 bd7 11 (stL room ds is ms nx O j i) = some (.code (.exit 0) (stLe room ds is ms nx O j i)) := by
  unfold stL stLe
  rw [lp_step (envV A) 7 (c0 := bd7) (lv := lvF7) rfl rfl]
  have hnle := hA.nleE; have hneq := hA.neqE
  have klt := hA.lt; have kle := hA.le; have keq := hA.eq; have knle := hA.nle; have kneq := hA.neq
  generalize lpOf (envV A) 7 bd7 = LP
  generalize evl (envV A) = E at e0 e5 e_b00 e_b01 e_b02 e_b10 e_b11 e_b12 e_b20 e_b21 e_b22 h1 ⊢
  obtain ⟨aadd, asub, amul, arem, aquo, awr, ashr, aeq, alt, ale, aseq, aslt, acat, acut, asiz, aat, anle, aneq, afit⟩ := A
  simp only at hnle hneq
  subst hnle hneq
  simp only at klt kle keq knle kneq
  try simp only at h1
  conv at e0 => lhs; cbv
  conv at e5 => lhs; cbv
  conv at e_b00 => lhs; cbv
  conv at e_b01 => lhs; cbv
  conv at e_b02 => lhs; cbv
  conv at e_b10 => lhs; cbv
  conv at e_b11 => lhs; cbv
  conv at e_b12 => lhs; cbv
  conv at e_b20 => lhs; cbv
  conv at e_b21 => lhs; cbv
  conv at e_b22 => lhs; cbv
  cbv
  rewrite [e0]
  cbv
  rewrite [e5]
  cbv
  rewrite [h1]
  cbv
  rewrite [e5]
  cbv
  rewrite [e_b00]
  cbv
end
end ArInt
end Go.Va
namespace Go.Va
open Go.Proofs
set_option maxRecDepth 100000
set_option maxHeartbeats 40000000
namespace ArInt
section
variable (A : Ar) (hA : ArOk A) (ss fs ds is ms : List AV) (n j : Nat) (room rl nx x : Int) (O : Seg)
include hA
theorem eq_ap_no (h0 : evl (envV A) (.call 27 [] []) = some (.ret (.s (.bool true)) [])) (h1 : evl (envV A) (.call 34 [.s (.int .i64 room)] []) = some (.ret (.tup [.s (.pointer none), .s (.iface 45 (.int .i64 1))]) [])) (h2 : (bif A.lt room 1 then true else A.lt 200 room) = true) :
    evl (envV A) (.call 7 [.s (.int .i64 room), .sl 3 ds .imm] []) = some (.ret (.s (.bool true)) []) := by
  cases h3 : A.lt room 1 with
  | true =>
    clear h2
    rw [evl_fn (envV A) 7 _ _ (fn := Try.f7) (c := bd7) (lv := lvF7) rfl rfl rfl rfl rfl rfl]
    have hnle := hA.nleE; have hneq := hA.neqE
    have klt := hA.lt; have kle := hA.le; have keq := hA.eq; have knle := hA.nle; have kneq := hA.neq
    generalize lpOf (envV A) 7 bd7 = LP
    generalize evl (envV A) = E at h0 h1 h3 ⊢
    obtain ⟨aadd, asub, amul, arem, aquo, awr, ashr, aeq, alt, ale, aseq, aslt, acat, acut, asiz, aat, anle, aneq, afit⟩ := A
    simp only at hnle hneq
    subst hnle hneq
    simp only at klt kle keq knle kneq
    try simp only at h0 h1 h3
    cbv
    rewrite [h0]
    cbv
    rewrite [h1]
    cbv
    rewrite [h3]
    cbv
    rewrite [keq (1) (1)]
    cbv
  | false =>
    rw [h3] at h2
    simp only [cond_false] at h2
    rw [evl_fn (envV A) 7 _ _ (fn := Try.f7) (c := bd7) (lv := lvF7) rfl rfl rfl rfl rfl rfl]
    have hnle := hA.nleE; have hneq := hA.neqE
    have klt := hA.lt; have kle := hA.le; have keq := hA.eq; have knle := hA.nle; have kneq := hA.neq
    generalize lpOf (envV A) 7 bd7 = LP
    generalize evl (envV A) = E at h0 h1 h2 h3 ⊢
    obtain ⟨aadd, asub, amul, arem, aquo, awr, ashr, aeq, alt, ale, aseq, aslt, acat, acut, asiz, aat, anle, aneq, afit⟩ := A
    simp only at hnle hneq
    subst hnle hneq
    simp only at klt kle keq knle kneq
    try simp only at h0 h1 h2 h3
    cbv
    rewrite [h0]
    cbv
    rewrite [h1]
    cbv
    rewrite [h3]
    cbv
    rewrite [h2]
    cbv
    rewrite [keq (1) (1)]
    cbv
theorem eq_ap_many (h0 : evl (envV A) (.call 27 [] []) = some (.ret (.s (.bool true)) [])) (h1 : evl (envV A) (.call 34 [.s (.int .i64 room)] []) = some (.ret (.tup [.ptr 0 0, .s .nilIface]) [arO [] [] room 0])) (h2 : A.lt room 1 = false) (h3 : A.lt 200 room = false) (e0 : ds.length = n) (h4 : A.lt 120 (.ofNat n) = true) :
    evl (envV A) (.call 7 [.s (.int .i64 room), .sl 3 ds .imm] []) = some (.ret (.s (.bool true)) []) := by
  unfold arO at h1
  rw [evl_fn (envV A) 7 _ _ (fn := Try.f7) (c := bd7) (lv := lvF7) rfl rfl rfl rfl rfl rfl]
  have hnle := hA.nleE; have hneq := hA.neqE
  have klt := hA.lt; have kle := hA.le; have keq := hA.eq; have knle := hA.nle; have kneq := hA.neq
  generalize lpOf (envV A) 7 bd7 = LP
  generalize evl (envV A) = E at h0 h1 h2 h3 h4 e0 ⊢
  obtain ⟨aadd, asub, amul, arem, aquo, awr, ashr, aeq, alt, ale, aseq, aslt, acat, acut, asiz, aat, anle, aneq, afit⟩ := A
  simp only at hnle hneq
  subst hnle hneq
  simp only at klt kle keq knle kneq
  try simp only at h0 h1 h2 h3 h4
  conv at e0 => lhs; cbv
  cbv
  rewrite [h0]
  cbv
  rewrite [h1]
  cbv
  rewrite [h2]
  cbv
  rewrite [h3]
  cbv
  rewrite [e0]
  cbv
  rewrite [h4]
  cbv
theorem eq_ap (h0 : evl (envV A) (.call 27 [] []) = some (.ret (.s (.bool true)) [])) (h1 : evl (envV A) (.call 34 [.s (.int .i64 room)] []) = some (.ret (.tup [.ptr 0 0, .s .nilIface]) [arO [] [] room 0])) (h2 : A.lt room 1 = false) (h3 : A.lt 200 room = false) (e0 : ds.length = n) (h4 : A.lt 120 (.ofNat n) = false)
    (h5 : lpOf (envV A) 7 bd7 11 (stL room ds [] [] 1 [arO [] [] room 0] 0 0) = some (.code (.exit 0) (stLe room ds is ms nx O j n)))
    (e1 : lget O j = some [.sl 2 ss .full, .sl 1 fs .full, .s (.int .i64 room), .s (.int .i64 rl)]) (e2 : O.length = Nat.succ j) (e3 : O ++ [] = O) (e_b00 : Nat.beq (j) (j) = true) (e_b01 : Nat.beq (j) (Nat.succ j) = false) (e_b02 : Nat.beq (j) (Nat.succ (Nat.succ j)) = false) (e_b10 : Nat.beq (Nat.succ j) (j) = false) (e_b11 : Nat.beq (Nat.succ j) (Nat.succ j) = true) (e_b12 : Nat.beq (Nat.succ j) (Nat.succ (Nat.succ j)) = false) (e_b20 : Nat.beq (Nat.succ (Nat.succ j)) (j) = false) (e_b21 : Nat.beq (Nat.succ (Nat.succ j)) (Nat.succ j) = false) (e_b22 : Nat.beq (Nat.succ (Nat.succ j)) (Nat.succ (Nat.succ j)) = true)
    (h6 : evl (envV A) (.call 44 [arV ss fs room rl, .s (.int .i64 nx)] []) = some (.ret (.tup [.s (.int .i64 0), .s (.bool false)]) [])) (h7 : evl (envV A) (.call 44 [arV ss fs room rl, .s (.int .i64 0)] []) = some (.ret (.tup [.s (.int .i64 0), .s (.bool false)]) [])) :
    evl (envV A) (.call 7 [.s (.int .i64 room), .sl 3 ds .imm] []) = some (.ret (.s (.bool true)) []) := by
  unfold arO at h1 h5; unfold stL stLe at h5; unfold arV at h6 h7
  simp only [show Int.ofNat 0 = 0 from rfl] at h5
  rw [evl_fn (envV A) 7 _ _ (fn := Try.f7) (c := bd7) (lv := lvF7) rfl rfl rfl rfl rfl rfl]
  have hnle := hA.nleE; have hneq := hA.neqE
  have klt := hA.lt; have kle := hA.le; have keq := hA.eq; have knle := hA.nle; have kneq := hA.neq
  rw [lp_split (lpOf (envV A) 7 bd7) 11]
  generalize lpOf (envV A) 7 bd7 11 = L11 at h0 h1 h2 h3 h4 e0 h5 e1 e2 e3 e_b00 e_b01 e_b02 e_b10 e_b11 e_b12 e_b20 e_b21 e_b22 h6 h7 ⊢
  generalize lpOf (envV A) 7 bd7 = LP
  generalize evl (envV A) = E at h0 h1 h2 h3 h4 e0 h5 e1 e2 e3 e_b00 e_b01 e_b02 e_b10 e_b11 e_b12 e_b20 e_b21 e_b22 h6 h7 ⊢
  obtain ⟨aadd, asub, amul, arem, aquo, awr, ashr, aeq, alt, ale, aseq, aslt, acat, acut, asiz, aat, anle, aneq, afit⟩ := A
  simp only at hnle hneq
  subst hnle hneq
  simp only at klt kle keq knle kneq
  try simp only at h0 h1 h2 h3 h4 h5 h6 h7
  conv at e0 => lhs; cbv
  conv at e1 => lhs; cbv
  conv at e2 => lhs; cbv
  conv at e3 => lhs; cbv
  conv at e_b00 => lhs; cbv
  conv at e_b01 => lhs; cbv
  conv at e_b02 => lhs; cbv
  conv at e_b10 => lhs; cbv
  conv at e_b11 => lhs; cbv
  conv at e_b12 => lhs; cbv
  conv at e_b20 => lhs; cbv
  conv at e_b21 => lhs; cbv
  conv at e_b22 => lhs; cbv
  cbv
  rewrite [h0]
  cbv
  rewrite [h1]
  cbv
  rewrite [h2]
  cbv
  rewrite [h3]
  cbv
  rewrite [e0]
  cbv
  rewrite [h4]
  cbv
  rewrite [h5]
  cbv
  rewrite [e1]
  cbv
  rewrite [h6]
  cbv
  rewrite [e3]
  cbv
  rewrite [e2]
  cbv
  rewrite [e2]
  cbv
  rewrite [e_b00]
  cbv
  rewrite [e1]
  cbv
  rewrite [e2]
  cbv
  rewrite [e_b00]
  cbv
  rewrite [h7]
  cbv
  rewrite [keq (0) (0)]
  cbv
end
end ArInt
end Go.Va
