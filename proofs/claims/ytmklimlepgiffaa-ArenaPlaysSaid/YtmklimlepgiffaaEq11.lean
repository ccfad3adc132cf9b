/- The functions that the statement reaches, by equations: no statement of its own. -/
import Derived.Test.YtmklimlepgiffaaEq10
set_option linter.unusedVariables false
set_option linter.unusedSimpArgs false
set_option linter.unusedSectionVars false
namespace Go.Va
open Go.Proofs
set_option maxRecDepth 100000
set_option maxHeartbeats 4000000
namespace ArInt
section
variable (A : Ar) (hA : ArOk A) (ss fs ss2 fs2 ds is ms is2 ms2 ia ib ma mb : List AV) (n m m2 i j k p : Nat) (room last l2 id d rl nx nx2 at_ w x y q : Int) (O P P2 O2 Q Q2 : Seg)
include hA
theorem lp_ap_putA {r : Option Res} (e0 : ds.length = n) (e1 : lget ds i = some (.agg [.s (.int .i64 w), .s (.int .i64 d), .s (.int .i64 x)])) (e2 : Nat.ble (Nat.succ i) n = true) (h1 : A.lt (.ofNat i) (.ofNat n) = true) (h2 : A.add .i64 (.ofNat i) 1 = .ofNat (Nat.succ i)) (e_Ol : O.length = Nat.succ j) (e_P : O ++ [[.s (.int .i64 w), .s (.int .i64 d), .s (.int .i64 x)]] = P) (e_Pl : P.length = Nat.succ (Nat.succ j)) (e_Px : lget P (Nat.succ j) = some [.s (.int .i64 w), .s (.int .i64 d), .s (.int .i64 x)]) (e_Pj : lget P j = some [.sl 2 ss .full, .sl 1 fs .full, .s (.int .i64 room), .s (.int .i64 rl)]) (e_Pn : P ++ [] = P) (e_im : is.length = m) (e_mm : ms.length = m) (e_z : 0 + m = m) (e_mle : Nat.ble m m = true) (hP : evl (envV A) (.call 35 [.s (.int .i64 w), .s (.int .i64 8)] []) = some (.ret (.s (.int .i64 q)) [])) (hF : lpOf (envV A) 7 bd7 16 (stF room ds is ms nx P j i (-1) 0) = some (.code (.exit 2) (stFe room ds is ms nx P j i at_ m))) (h3 : evl (envV A) (.call 36 [.ptr 0 0, .s (.int .i64 x)] [arO ss fs room rl]) = some (.ret (.tup [.s (.int .i64 id), .s .nilIface]) [arO ss2 fs2 room l2])) (h4 : A.le room (.ofNat m) = false) (h13 : A.eq id nx = true) (h14 : A.add .i64 nx 1 = nx2) (e_a1 : lset P j [.sl 2 ss2 .full, .sl 1 fs2 .full, .s (.int .i64 room), .s (.int .i64 l2)] = P2) (e_a2 : P2 ++ [] = P2) (e_a3 : P2.length = Nat.succ (Nat.succ j)) (e_a4 : lget P2 (Nat.succ j) = some [.s (.int .i64 w), .s (.int .i64 d), .s (.int .i64 x)]) (e_a5 : lget P2 j = some [.sl 2 ss2 .full, .sl 1 fs2 .full, .s (.int .i64 room), .s (.int .i64 l2)]) (e_a6 : P2.dropLast = O2) (e_a7 : refSeg (Nat.succ j) O2 = false) (e_c1 : lcut is 0 m = is) (e_c2 : lcut ms 0 m = ms) (e_c3 : is ++ [.s (.int .i64 id)] = is2) (e_c4 : ms ++ [.s (.int .i64 x)] = ms2) (h11 : A.fit m 8 = true) (h12 : A.fit (Nat.succ m) 8 = true) (e_c5 : Nat.beq m m = true) (e_2l : O2.length = Nat.succ (j)) (e_2j : lget O2 (j) = some [.sl 2 ss2 .full, .sl 1 fs2 .full, .s (.int .i64 room), .s (.int .i64 l2)]) (e_2n : O2 ++ [] = O2) (e_2m : is2.length = (Nat.succ m)) (h5 : evl (envV A) (.call 41 [arV ss2 fs2 room l2] []) = some (.ret (.s (.int .i64 (.ofNat (Nat.succ m)))) [])) (h6 : evl (envV A) (.call 42 [arV ss2 fs2 room l2] []) = some (.ret (.s (.int .i64 nx2)) [])) (h7 : evl (envV A) (.call 43 [arV ss2 fs2 room l2] []) = some (.ret (.s (.int .i64 room)) [])) (h8 : A.eq (.ofNat (Nat.succ m)) (.ofNat (Nat.succ m)) = true) (h9 : A.eq nx2 nx2 = true) (h10 : A.eq room room = true) (hC : lpOf (envV A) 7 bd7 54 (stC room ds is2 ms2 nx2 O2 (j) i 0) = some (.code (.exit 5) (stCe room ds is2 ms2 nx2 O2 (j) i (Nat.succ m)))) (hr : lpOf (envV A) 7 bd7 11 (stL room ds is2 ms2 nx2 O2 (j) (Nat.succ i)) = r) (e_b00 : Nat.beq (j) (j) = true) (e_b01 : Nat.beq (j) (Nat.succ j) = false) (e_b02 : Nat.beq (j) (Nat.succ (Nat.succ j)) = false) (e_b03 : Nat.beq (j) (Nat.succ (Nat.succ (Nat.succ j))) = false) (e_b10 : Nat.beq (Nat.succ j) (j) = false) (e_b11 : Nat.beq (Nat.succ j) (Nat.succ j) = true) (e_b12 : Nat.beq (Nat.succ j) (Nat.succ (Nat.succ j)) = false) (e_b13 : Nat.beq (Nat.succ j) (Nat.succ (Nat.succ (Nat.succ j))) = false) (e_b20 : Nat.beq (Nat.succ (Nat.succ j)) (j) = false) (e_b21 : Nat.beq (Nat.succ (Nat.succ j)) (Nat.succ j) = false) (e_b22 : Nat.beq (Nat.succ (Nat.succ j)) (Nat.succ (Nat.succ j)) = true) (e_b23 : Nat.beq (Nat.succ (Nat.succ j)) (Nat.succ (Nat.succ (Nat.succ j))) = false) (e_b30 : Nat.beq (Nat.succ (Nat.succ (Nat.succ j))) (j) = false) (e_b31 : Nat.beq (Nat.succ (Nat.succ (Nat.succ j))) (Nat.succ j) = false) (e_b32 : Nat.beq (Nat.succ (Nat.succ (Nat.succ j))) (Nat.succ (Nat.succ j)) = false) (e_b33 : Nat.beq (Nat.succ (Nat.succ (Nat.succ j))) (Nat.succ (Nat.succ (Nat.succ j))) = true) (hq : q = 0 ∨ q = 1 ∨ q = 2 ∨ q = 3) :
    lpOf (envV A) 7 bd7 11 (stL room ds is ms nx O j i) = r := by
  unfold stF stFe at hF; unfold stC stCe at hC; unfold stL at hr ⊢; unfold arO at *; unfold arV at *
  simp only [show Int.ofNat 0 = 0 from rfl] at hF hC
  rcases hq with rfl | rfl | rfl | rfl
  ·
    rw [lp_step (envV A) 7 (c0 := bd7) (lv := lvF7) rfl rfl]
    have hnle := hA.nleE; have hneq := hA.neqE
    have klt := hA.lt; have kle := hA.le; have keq := hA.eq; have knle := hA.nle; have kneq := hA.neq
    rw [lp_split (lpOf (envV A) 7 bd7) 11]
    generalize lpOf (envV A) 7 bd7 11 = L11 at e0 e1 e2 h1 h2 e_Ol e_P e_Pl e_Px e_Pj e_Pn e_im e_mm e_z e_mle hP hF h3 h4 h13 h14 e_a1 e_a2 e_a3 e_a4 e_a5 e_a6 e_a7 e_c1 e_c2 e_c3 e_c4 h11 h12 e_c5 e_2l e_2j e_2n e_2m h5 h6 h7 h8 h9 h10 hC hr e_b00 e_b01 e_b02 e_b03 e_b10 e_b11 e_b12 e_b13 e_b20 e_b21 e_b22 e_b23 e_b30 e_b31 e_b32 e_b33 ⊢
    rw [lp_split (lpOf (envV A) 7 bd7) 16]
    generalize lpOf (envV A) 7 bd7 16 = L16 at e0 e1 e2 h1 h2 e_Ol e_P e_Pl e_Px e_Pj e_Pn e_im e_mm e_z e_mle hP hF h3 h4 h13 h14 e_a1 e_a2 e_a3 e_a4 e_a5 e_a6 e_a7 e_c1 e_c2 e_c3 e_c4 h11 h12 e_c5 e_2l e_2j e_2n e_2m h5 h6 h7 h8 h9 h10 hC hr e_b00 e_b01 e_b02 e_b03 e_b10 e_b11 e_b12 e_b13 e_b20 e_b21 e_b22 e_b23 e_b30 e_b31 e_b32 e_b33 ⊢
    rw [lp_split (lpOf (envV A) 7 bd7) 54]
    generalize lpOf (envV A) 7 bd7 54 = L54 at e0 e1 e2 h1 h2 e_Ol e_P e_Pl e_Px e_Pj e_Pn e_im e_mm e_z e_mle hP hF h3 h4 h13 h14 e_a1 e_a2 e_a3 e_a4 e_a5 e_a6 e_a7 e_c1 e_c2 e_c3 e_c4 h11 h12 e_c5 e_2l e_2j e_2n e_2m h5 h6 h7 h8 h9 h10 hC hr e_b00 e_b01 e_b02 e_b03 e_b10 e_b11 e_b12 e_b13 e_b20 e_b21 e_b22 e_b23 e_b30 e_b31 e_b32 e_b33 ⊢
    generalize lpOf (envV A) 7 bd7 = LP
    generalize evl (envV A) = E at e0 e1 e2 h1 h2 e_Ol e_P e_Pl e_Px e_Pj e_Pn e_im e_mm e_z e_mle hP hF h3 h4 h13 h14 e_a1 e_a2 e_a3 e_a4 e_a5 e_a6 e_a7 e_c1 e_c2 e_c3 e_c4 h11 h12 e_c5 e_2l e_2j e_2n e_2m h5 h6 h7 h8 h9 h10 hC hr e_b00 e_b01 e_b02 e_b03 e_b10 e_b11 e_b12 e_b13 e_b20 e_b21 e_b22 e_b23 e_b30 e_b31 e_b32 e_b33 ⊢
    obtain ⟨aadd, asub, amul, arem, aquo, awr, ashr, aeq, alt, ale, aseq, aslt, acat, acut, asiz, aat, anle, aneq, afit⟩ := A
    simp only at hnle hneq
    subst hnle hneq
    simp only at klt kle keq knle kneq
    try simp only at h1 h2 hP hF h3 h4 h13 h14 h11 h12 h5 h6 h7 h8 h9 h10 hC hr
    conv at e0 => lhs; cbv
    conv at e1 => lhs; cbv
    conv at e2 => lhs; cbv
    conv at e_Ol => lhs; cbv
    conv at e_P => lhs; cbv
    conv at e_Pl => lhs; cbv
    conv at e_Px => lhs; cbv
    conv at e_Pj => lhs; cbv
    conv at e_Pn => lhs; cbv
    conv at e_im => lhs; cbv
    conv at e_mm => lhs; cbv
    conv at e_z => lhs; cbv
    conv at e_mle => lhs; cbv
    conv at e_a1 => lhs; cbv
    conv at e_a2 => lhs; cbv
    conv at e_a3 => lhs; cbv
    conv at e_a4 => lhs; cbv
    conv at e_a5 => lhs; cbv
    conv at e_a6 => lhs; cbv
    conv at e_a7 => lhs; cbv
    conv at e_c1 => lhs; cbv
    conv at e_c2 => lhs; cbv
    conv at e_c3 => lhs; cbv
    conv at e_c4 => lhs; cbv
    conv at e_c5 => lhs; cbv
    conv at e_2l => lhs; cbv
    conv at e_2j => lhs; cbv
    conv at e_2n => lhs; cbv
    conv at e_2m => lhs; cbv
    conv at e_b00 => lhs; cbv
    conv at e_b01 => lhs; cbv
    conv at e_b02 => lhs; cbv
    conv at e_b03 => lhs; cbv
    conv at e_b10 => lhs; cbv
    conv at e_b11 => lhs; cbv
    conv at e_b12 => lhs; cbv
    conv at e_b13 => lhs; cbv
    conv at e_b20 => lhs; cbv
    conv at e_b21 => lhs; cbv
    conv at e_b22 => lhs; cbv
    conv at e_b23 => lhs; cbv
    conv at e_b30 => lhs; cbv
    conv at e_b31 => lhs; cbv
    conv at e_b32 => lhs; cbv
    conv at e_b33 => lhs; cbv
    cbv
    rewrite [e0]
    cbv
    rewrite [e_Ol]
    cbv
    rewrite [h1]
    cbv
    rewrite [e1]
    cbv
    rewrite [e_Ol]
    cbv
    rewrite [e_b00]
    cbv
    conv in (L16 _) => arg 1; cbv
    cbv
    rewrite [e_b00]
    cbv
    rewrite [e_Ol]
    cbv
    rewrite [e_P]
    cbv
    rewrite [e_Pl]
    cbv
    conv in (L16 _) => arg 1; cbv
    cbv
    rewrite [e_Pl]
    cbv
    rewrite [e_b00]
    cbv
    rewrite [e_Ol]
    cbv
    rewrite [e_b01]
    cbv
    rewrite [e_b10]
    cbv
    conv in (L16 _) => arg 1; cbv
    cbv
    rewrite [e_b00]
    cbv
    conv in (L16 _) => arg 1; cbv
    cbv
    rewrite [e_b00]
    cbv
    rewrite [e_Pl]
    cbv
    conv in (L16 _) => arg 1; cbv
    cbv
    rewrite [e_Pl]
    cbv
    rewrite [e_b00]
    cbv
    rewrite [e_Ol]
    cbv
    rewrite [e_b01]
    cbv
    rewrite [e_b10]
    cbv
    conv in (L16 _) => arg 1; cbv
    cbv
    rewrite [e_b00]
    cbv
    conv in (L16 _) => arg 1; cbv
    cbv
    rewrite [e_b00]
    cbv
    rewrite [e_Pl]
    cbv
    conv in (L16 _) => arg 1; cbv
    cbv
    rewrite [e_Pl]
    cbv
    rewrite [e_b00]
    cbv
    rewrite [e_Ol]
    cbv
    rewrite [e_b01]
    cbv
    rewrite [e_b10]
    cbv
    conv in (L16 _) => arg 1; cbv
    cbv
    rewrite [e_b00]
    cbv
    conv in (L16 _) => arg 1; cbv
    cbv
    rewrite [e_b00]
    cbv
    rewrite [hF]
    cbv
    rewrite [e_Px]
    cbv
    rewrite [hP]
    cbv
    rewrite [e_Pn]
    cbv
    rewrite [e_Pl]
    cbv
    rewrite [keq (0) (0)]
    cbv
    rewrite [e_Pl]
    cbv
    rewrite [e_b00]
    cbv
    rewrite [e_b01]
    cbv
    rewrite [e_b10]
    cbv
    rewrite [e_Pl]
    cbv
    rewrite [e_Pl]
    cbv
    rewrite [e_b00]
    cbv
    rewrite [e_b01]
    cbv
    rewrite [e_b10]
    cbv
    rewrite [e_Px]
    cbv
    rewrite [e_b00]
    cbv
    rewrite [e_Pl]
    cbv
    rewrite [e_Pl]
    cbv
    rewrite [e_b00]
    cbv
    rewrite [e_b01]
    cbv
    rewrite [e_b10]
    cbv
    rewrite [e_Pj]
    cbv
    rewrite [e_Pl]
    cbv
    rewrite [e_b00]
    cbv
    rewrite [e_b01]
    cbv
    rewrite [e_b10]
    cbv
    rewrite [e_Pj]
    cbv
    rewrite [e_Pl]
    cbv
    rewrite [e_b00]
    cbv
    rewrite [e_b01]
    cbv
    rewrite [e_b10]
    cbv
    rewrite [h3]
    cbv
    rewrite [e_im]
    cbv
    rewrite [e_b00]
    cbv
    rewrite [e_a1]
    cbv
    rewrite [e_a2]
    cbv
    rewrite [e_a3]
    cbv
    rewrite [h4]
    cbv
    rewrite [e_a3]
    cbv
    rewrite [e_a6]
    cbv
    rewrite [e_a7]
    cbv
    rewrite [e_2l]
    cbv
    rewrite [e_b00]
    cbv
    rewrite [e_b01]
    cbv
    rewrite [e_b10]
    cbv
    rewrite [h13]
    cbv
    rewrite [e_im]
    cbv
    rewrite [e_z]
    cbv
    rewrite [e_mle]
    cbv
    rewrite [e_c1]
    cbv
    rewrite [e_im]
    cbv
    rewrite [e_z]
    cbv
    rewrite [e_b00]
    cbv
    rewrite [e_a3]
    cbv
    rewrite [h11]
    cbv
    rewrite [e_im]
    cbv
    rewrite [e_a3]
    cbv
    rewrite [e_a6]
    cbv
    rewrite [e_a7]
    cbv
    rewrite [e_c3]
    cbv
    rewrite [e_2l]
    cbv
    rewrite [e_b00]
    cbv
    rewrite [e_b01]
    cbv
    rewrite [e_b10]
    cbv
    rewrite [h12]
    cbv
    rewrite [e_mm]
    cbv
    rewrite [e_z]
    cbv
    rewrite [e_mle]
    cbv
    rewrite [e_c2]
    cbv
    rewrite [e_mm]
    cbv
    rewrite [e_z]
    cbv
    rewrite [e_b00]
    cbv
    rewrite [e_a3]
    cbv
    rewrite [e_a3]
    cbv
    rewrite [e_a6]
    cbv
    rewrite [e_a7]
    cbv
    rewrite [e_2l]
    cbv
    rewrite [e_b00]
    cbv
    rewrite [e_b01]
    cbv
    rewrite [e_b10]
    cbv
    rewrite [e_a3]
    cbv
    rewrite [e_a3]
    cbv
    rewrite [e_a6]
    cbv
    rewrite [e_a7]
    cbv
    rewrite [e_2l]
    cbv
    rewrite [e_b00]
    cbv
    rewrite [e_b01]
    cbv
    rewrite [e_b10]
    cbv
    rewrite [h11]
    cbv
    rewrite [e_a3]
    cbv
    rewrite [e_a4]
    cbv
    rewrite [e_mm]
    cbv
    rewrite [e_a6]
    cbv
    rewrite [e_a7]
    cbv
    rewrite [e_c4]
    cbv
    rewrite [e_2l]
    cbv
    rewrite [e_b00]
    cbv
    rewrite [e_b01]
    cbv
    rewrite [e_b10]
    cbv
    rewrite [e_a3]
    cbv
    rewrite [h12]
    cbv
    rewrite [e_a3]
    cbv
    rewrite [e_a3]
    cbv
    rewrite [e_a6]
    cbv
    rewrite [e_a7]
    cbv
    rewrite [e_2l]
    cbv
    rewrite [e_b00]
    cbv
    rewrite [e_b10]
    cbv
    rewrite [e_b00]
    cbv
    rewrite [e_2l]
    cbv
    rewrite [e_2l]
    cbv
    rewrite [e_b00]
    cbv
    rewrite [e_2j]
    cbv
    rewrite [e_a3]
    cbv
    rewrite [e_a6]
    cbv
    rewrite [e_a7]
    cbv
    rewrite [e_2l]
    cbv
    rewrite [e_b00]
    cbv
    rewrite [e_b10]
    cbv
    rewrite [h5]
    cbv
    rewrite [e_2m]
    cbv
    rewrite [e_b00]
    cbv
    rewrite [h14]
    cbv
    rewrite [h8]
    cbv
    rewrite [e_b00]
    cbv
    rewrite [e_2l]
    cbv
    rewrite [e_2l]
    cbv
    rewrite [e_b00]
    cbv
    rewrite [e_2n]
    cbv
    rewrite [e_2j]
    cbv
    rewrite [e_2l]
    cbv
    rewrite [e_b00]
    cbv
    rewrite [h6]
    cbv
    rewrite [e_b00]
    cbv
    rewrite [e_2n]
    cbv
    rewrite [e_2n]
    cbv
    rewrite [h9]
    cbv
    rewrite [e_2j]
    cbv
    rewrite [h7]
    cbv
    rewrite [e_2n]
    cbv
    rewrite [e_2l]
    cbv
    rewrite [h10]
    cbv
    rewrite [e_2l]
    cbv
    rewrite [e_b00]
    cbv
    conv in (L54 _) => arg 1; cbv
    cbv
    rewrite [e_b00]
    cbv
    rewrite [e_2l]
    cbv
    conv in (L54 _) => arg 1; cbv
    cbv
    rewrite [e_2l]
    cbv
    rewrite [e_b00]
    cbv
    conv in (L54 _) => arg 1; cbv
    cbv
    rewrite [e_b00]
    cbv
    rewrite [hC]
    cbv
    rewrite [e_2l]
    cbv
    rewrite [h2]
    cbv
    conv in (L11 _) => arg 1; cbv
    cbv
    rewrite [e_2l]
    cbv
    rewrite [e_b00]
    cbv
    conv in (L11 _) => arg 1; cbv
    cbv
    rewrite [e_b00]
    cbv
    rewrite [hr]
    cbv
  ·
    rw [lp_step (envV A) 7 (c0 := bd7) (lv := lvF7) rfl rfl]
    have hnle := hA.nleE; have hneq := hA.neqE
    have klt := hA.lt; have kle := hA.le; have keq := hA.eq; have knle := hA.nle; have kneq := hA.neq
    rw [lp_split (lpOf (envV A) 7 bd7) 11]
    generalize lpOf (envV A) 7 bd7 11 = L11 at e0 e1 e2 h1 h2 e_Ol e_P e_Pl e_Px e_Pj e_Pn e_im e_mm e_z e_mle hP hF h3 h4 h13 h14 e_a1 e_a2 e_a3 e_a4 e_a5 e_a6 e_a7 e_c1 e_c2 e_c3 e_c4 h11 h12 e_c5 e_2l e_2j e_2n e_2m h5 h6 h7 h8 h9 h10 hC hr e_b00 e_b01 e_b02 e_b03 e_b10 e_b11 e_b12 e_b13 e_b20 e_b21 e_b22 e_b23 e_b30 e_b31 e_b32 e_b33 ⊢
    rw [lp_split (lpOf (envV A) 7 bd7) 16]
    generalize lpOf (envV A) 7 bd7 16 = L16 at e0 e1 e2 h1 h2 e_Ol e_P e_Pl e_Px e_Pj e_Pn e_im e_mm e_z e_mle hP hF h3 h4 h13 h14 e_a1 e_a2 e_a3 e_a4 e_a5 e_a6 e_a7 e_c1 e_c2 e_c3 e_c4 h11 h12 e_c5 e_2l e_2j e_2n e_2m h5 h6 h7 h8 h9 h10 hC hr e_b00 e_b01 e_b02 e_b03 e_b10 e_b11 e_b12 e_b13 e_b20 e_b21 e_b22 e_b23 e_b30 e_b31 e_b32 e_b33 ⊢
    rw [lp_split (lpOf (envV A) 7 bd7) 54]
    generalize lpOf (envV A) 7 bd7 54 = L54 at e0 e1 e2 h1 h2 e_Ol e_P e_Pl e_Px e_Pj e_Pn e_im e_mm e_z e_mle hP hF h3 h4 h13 h14 e_a1 e_a2 e_a3 e_a4 e_a5 e_a6 e_a7 e_c1 e_c2 e_c3 e_c4 h11 h12 e_c5 e_2l e_2j e_2n e_2m h5 h6 h7 h8 h9 h10 hC hr e_b00 e_b01 e_b02 e_b03 e_b10 e_b11 e_b12 e_b13 e_b20 e_b21 e_b22 e_b23 e_b30 e_b31 e_b32 e_b33 ⊢
    generalize lpOf (envV A) 7 bd7 = LP
    generalize evl (envV A) = E at e0 e1 e2 h1 h2 e_Ol e_P e_Pl e_Px e_Pj e_Pn e_im e_mm e_z e_mle hP hF h3 h4 h13 h14 e_a1 e_a2 e_a3 e_a4 e_a5 e_a6 e_a7 e_c1 e_c2 e_c3 e_c4 h11 h12 e_c5 e_2l e_2j e_2n e_2m h5 h6 h7 h8 h9 h10 hC hr e_b00 e_b01 e_b02 e_b03 e_b10 e_b11 e_b12 e_b13 e_b20 e_b21 e_b22 e_b23 e_b30 e_b31 e_b32 e_b33 ⊢
    obtain ⟨aadd, asub, amul, arem, aquo, awr, ashr, aeq, alt, ale, aseq, aslt, acat, acut, asiz, aat, anle, aneq, afit⟩ := A
    simp only at hnle hneq
    subst hnle hneq
    simp only at klt kle keq knle kneq
    try simp only at h1 h2 hP hF h3 h4 h13 h14 h11 h12 h5 h6 h7 h8 h9 h10 hC hr
    conv at e0 => lhs; cbv
    conv at e1 => lhs; cbv
    conv at e2 => lhs; cbv
    conv at e_Ol => lhs; cbv
    conv at e_P => lhs; cbv
    conv at e_Pl => lhs; cbv
    conv at e_Px => lhs; cbv
    conv at e_Pj => lhs; cbv
    conv at e_Pn => lhs; cbv
    conv at e_im => lhs; cbv
    conv at e_mm => lhs; cbv
    conv at e_z => lhs; cbv
    conv at e_mle => lhs; cbv
    conv at e_a1 => lhs; cbv
    conv at e_a2 => lhs; cbv
    conv at e_a3 => lhs; cbv
    conv at e_a4 => lhs; cbv
    conv at e_a5 => lhs; cbv
    conv at e_a6 => lhs; cbv
    conv at e_a7 => lhs; cbv
    conv at e_c1 => lhs; cbv
    conv at e_c2 => lhs; cbv
    conv at e_c3 => lhs; cbv
    conv at e_c4 => lhs; cbv
    conv at e_c5 => lhs; cbv
    conv at e_2l => lhs; cbv
    conv at e_2j => lhs; cbv
    conv at e_2n => lhs; cbv
    conv at e_2m => lhs; cbv
    conv at e_b00 => lhs; cbv
    conv at e_b01 => lhs; cbv
    conv at e_b02 => lhs; cbv
    conv at e_b03 => lhs; cbv
    conv at e_b10 => lhs; cbv
    conv at e_b11 => lhs; cbv
    conv at e_b12 => lhs; cbv
    conv at e_b13 => lhs; cbv
    conv at e_b20 => lhs; cbv
    conv at e_b21 => lhs; cbv
    conv at e_b22 => lhs; cbv
    conv at e_b23 => lhs; cbv
    conv at e_b30 => lhs; cbv
    conv at e_b31 => lhs; cbv
    conv at e_b32 => lhs; cbv
    conv at e_b33 => lhs; cbv
    cbv
    rewrite [e0]
    cbv
    rewrite [e_Ol]
    cbv
    rewrite [h1]
    cbv
    rewrite [e1]
    cbv
    rewrite [e_Ol]
    cbv
    rewrite [e_b00]
    cbv
    conv in (L16 _) => arg 1; cbv
    cbv
    rewrite [e_b00]
    cbv
    rewrite [e_Ol]
    cbv
    rewrite [e_P]
    cbv
    rewrite [e_Pl]
    cbv
    conv in (L16 _) => arg 1; cbv
    cbv
    rewrite [e_Pl]
    cbv
    rewrite [e_b00]
    cbv
    rewrite [e_Ol]
    cbv
    rewrite [e_b01]
    cbv
    rewrite [e_b10]
    cbv
    conv in (L16 _) => arg 1; cbv
    cbv
    rewrite [e_b00]
    cbv
    conv in (L16 _) => arg 1; cbv
    cbv
    rewrite [e_b00]
    cbv
    rewrite [e_Pl]
    cbv
    conv in (L16 _) => arg 1; cbv
    cbv
    rewrite [e_Pl]
    cbv
    rewrite [e_b00]
    cbv
    rewrite [e_Ol]
    cbv
    rewrite [e_b01]
    cbv
    rewrite [e_b10]
    cbv
    conv in (L16 _) => arg 1; cbv
    cbv
    rewrite [e_b00]
    cbv
    conv in (L16 _) => arg 1; cbv
    cbv
    rewrite [e_b00]
    cbv
    rewrite [e_Pl]
    cbv
    conv in (L16 _) => arg 1; cbv
    cbv
    rewrite [e_Pl]
    cbv
    rewrite [e_b00]
    cbv
    rewrite [e_Ol]
    cbv
    rewrite [e_b01]
    cbv
    rewrite [e_b10]
    cbv
    conv in (L16 _) => arg 1; cbv
    cbv
    rewrite [e_b00]
    cbv
    conv in (L16 _) => arg 1; cbv
    cbv
    rewrite [e_b00]
    cbv
    rewrite [hF]
    cbv
    rewrite [e_Px]
    cbv
    rewrite [hP]
    cbv
    rewrite [e_Pn]
    cbv
    rewrite [e_Pl]
    cbv
    rewrite [keq (1) (0)]
    cbv
    rewrite [e_Pl]
    cbv
    rewrite [e_b00]
    cbv
    rewrite [e_b01]
    cbv
    rewrite [e_b10]
    cbv
    rewrite [keq (1) (1)]
    cbv
    rewrite [e_b00]
    cbv
    rewrite [e_Pl]
    cbv
    rewrite [e_Pl]
    cbv
    rewrite [e_b00]
    cbv
    rewrite [e_b01]
    cbv
    rewrite [e_b10]
    cbv
    rewrite [e_Pl]
    cbv
    rewrite [e_Pl]
    cbv
    rewrite [e_b00]
    cbv
    rewrite [e_b01]
    cbv
    rewrite [e_b10]
    cbv
    rewrite [e_Px]
    cbv
    rewrite [e_Pl]
    cbv
    rewrite [e_b00]
    cbv
    rewrite [e_b01]
    cbv
    rewrite [e_b10]
    cbv
    rewrite [e_Pl]
    cbv
    rewrite [e_Pl]
    cbv
    rewrite [e_b00]
    cbv
    rewrite [e_b01]
    cbv
    rewrite [e_b10]
    cbv
    rewrite [e_Pj]
    cbv
    rewrite [e_b00]
    cbv
    rewrite [e_Pl]
    cbv
    rewrite [e_Pl]
    cbv
    rewrite [e_b00]
    cbv
    rewrite [e_b01]
    cbv
    rewrite [e_b10]
    cbv
    rewrite [e_Pj]
    cbv
    rewrite [e_b00]
    cbv
    rewrite [e_Pl]
    cbv
    rewrite [h3]
    cbv
    rewrite [e_Pl]
    cbv
    rewrite [e_im]
    cbv
    rewrite [e_b00]
    cbv
    rewrite [e_b01]
    cbv
    rewrite [e_b10]
    cbv
    rewrite [h4]
    cbv
    rewrite [e_b00]
    cbv
    rewrite [e_a1]
    cbv
    rewrite [e_a2]
    cbv
    rewrite [e_a3]
    cbv
    rewrite [h13]
    cbv
    rewrite [e_im]
    cbv
    rewrite [e_z]
    cbv
    rewrite [e_mle]
    cbv
    rewrite [e_a3]
    cbv
    rewrite [e_a6]
    cbv
    rewrite [e_a7]
    cbv
    rewrite [e_c1]
    cbv
    rewrite [e_im]
    cbv
    rewrite [e_z]
    cbv
    rewrite [e_2l]
    cbv
    rewrite [e_b00]
    cbv
    rewrite [e_b01]
    cbv
    rewrite [e_b10]
    cbv
    rewrite [h11]
    cbv
    rewrite [e_im]
    cbv
    rewrite [e_c3]
    cbv
    rewrite [e_b00]
    cbv
    rewrite [e_a3]
    cbv
    rewrite [h12]
    cbv
    rewrite [e_mm]
    cbv
    rewrite [e_z]
    cbv
    rewrite [e_mle]
    cbv
    rewrite [e_a3]
    cbv
    rewrite [e_a6]
    cbv
    rewrite [e_a7]
    cbv
    rewrite [e_c2]
    cbv
    rewrite [e_mm]
    cbv
    rewrite [e_z]
    cbv
    rewrite [e_2l]
    cbv
    rewrite [e_b00]
    cbv
    rewrite [e_b01]
    cbv
    rewrite [e_b10]
    cbv
    rewrite [e_a3]
    cbv
    rewrite [e_a3]
    cbv
    rewrite [e_a6]
    cbv
    rewrite [e_a7]
    cbv
    rewrite [e_2l]
    cbv
    rewrite [e_b00]
    cbv
    rewrite [e_b01]
    cbv
    rewrite [e_b10]
    cbv
    rewrite [e_a3]
    cbv
    rewrite [e_a3]
    cbv
    rewrite [e_a6]
    cbv
    rewrite [e_a7]
    cbv
    rewrite [e_2l]
    cbv
    rewrite [e_b00]
    cbv
    rewrite [e_b01]
    cbv
    rewrite [e_b10]
    cbv
    rewrite [h11]
    cbv
    rewrite [e_a4]
    cbv
    rewrite [e_mm]
    cbv
    rewrite [e_c4]
    cbv
    rewrite [e_b00]
    cbv
    rewrite [e_a3]
    cbv
    rewrite [h12]
    cbv
    rewrite [e_a3]
    cbv
    rewrite [e_a3]
    cbv
    rewrite [e_a6]
    cbv
    rewrite [e_a7]
    cbv
    rewrite [e_2l]
    cbv
    rewrite [e_b00]
    cbv
    rewrite [e_b10]
    cbv
    rewrite [e_b00]
    cbv
    rewrite [e_2l]
    cbv
    rewrite [e_2l]
    cbv
    rewrite [e_b00]
    cbv
    rewrite [e_2j]
    cbv
    rewrite [e_a3]
    cbv
    rewrite [e_a6]
    cbv
    rewrite [e_a7]
    cbv
    rewrite [e_2l]
    cbv
    rewrite [e_b00]
    cbv
    rewrite [e_b10]
    cbv
    rewrite [h5]
    cbv
    rewrite [e_2m]
    cbv
    rewrite [e_b00]
    cbv
    rewrite [h14]
    cbv
    rewrite [h8]
    cbv
    rewrite [e_b00]
    cbv
    rewrite [e_2l]
    cbv
    rewrite [e_2l]
    cbv
    rewrite [e_b00]
    cbv
    rewrite [e_2n]
    cbv
    rewrite [e_2j]
    cbv
    rewrite [e_2l]
    cbv
    rewrite [e_b00]
    cbv
    rewrite [h6]
    cbv
    rewrite [e_b00]
    cbv
    rewrite [e_2n]
    cbv
    rewrite [e_2n]
    cbv
    rewrite [h9]
    cbv
    rewrite [e_2j]
    cbv
    rewrite [h7]
    cbv
    rewrite [e_2n]
    cbv
    rewrite [e_2l]
    cbv
    rewrite [h10]
    cbv
    rewrite [e_2l]
    cbv
    rewrite [e_b00]
    cbv
    conv in (L54 _) => arg 1; cbv
    cbv
    rewrite [e_b00]
    cbv
    rewrite [e_2l]
    cbv
    conv in (L54 _) => arg 1; cbv
    cbv
    rewrite [e_2l]
    cbv
    rewrite [e_b00]
    cbv
    conv in (L54 _) => arg 1; cbv
    cbv
    rewrite [e_b00]
    cbv
    rewrite [hC]
    cbv
    rewrite [e_2l]
    cbv
    rewrite [h2]
    cbv
    conv in (L11 _) => arg 1; cbv
    cbv
    rewrite [e_2l]
    cbv
    rewrite [e_b00]
    cbv
    conv in (L11 _) => arg 1; cbv
    cbv
    rewrite [e_b00]
    cbv
    rewrite [hr]
    cbv
  ·
    rw [lp_step (envV A) 7 (c0 := bd7) (lv := lvF7) rfl rfl]
    have hnle := hA.nleE; have hneq := hA.neqE
    have klt := hA.lt; have kle := hA.le; have keq := hA.eq; have knle := hA.nle; have kneq := hA.neq
    rw [lp_split (lpOf (envV A) 7 bd7) 11]
    generalize lpOf (envV A) 7 bd7 11 = L11 at e0 e1 e2 h1 h2 e_Ol e_P e_Pl e_Px e_Pj e_Pn e_im e_mm e_z e_mle hP hF h3 h4 h13 h14 e_a1 e_a2 e_a3 e_a4 e_a5 e_a6 e_a7 e_c1 e_c2 e_c3 e_c4 h11 h12 e_c5 e_2l e_2j e_2n e_2m h5 h6 h7 h8 h9 h10 hC hr e_b00 e_b01 e_b02 e_b03 e_b10 e_b11 e_b12 e_b13 e_b20 e_b21 e_b22 e_b23 e_b30 e_b31 e_b32 e_b33 ⊢
    rw [lp_split (lpOf (envV A) 7 bd7) 16]
    generalize lpOf (envV A) 7 bd7 16 = L16 at e0 e1 e2 h1 h2 e_Ol e_P e_Pl e_Px e_Pj e_Pn e_im e_mm e_z e_mle hP hF h3 h4 h13 h14 e_a1 e_a2 e_a3 e_a4 e_a5 e_a6 e_a7 e_c1 e_c2 e_c3 e_c4 h11 h12 e_c5 e_2l e_2j e_2n e_2m h5 h6 h7 h8 h9 h10 hC hr e_b00 e_b01 e_b02 e_b03 e_b10 e_b11 e_b12 e_b13 e_b20 e_b21 e_b22 e_b23 e_b30 e_b31 e_b32 e_b33 ⊢
    rw [lp_split (lpOf (envV A) 7 bd7) 54]
    generalize lpOf (envV A) 7 bd7 54 = L54 at e0 e1 e2 h1 h2 e_Ol e_P e_Pl e_Px e_Pj e_Pn e_im e_mm e_z e_mle hP hF h3 h4 h13 h14 e_a1 e_a2 e_a3 e_a4 e_a5 e_a6 e_a7 e_c1 e_c2 e_c3 e_c4 h11 h12 e_c5 e_2l e_2j e_2n e_2m h5 h6 h7 h8 h9 h10 hC hr e_b00 e_b01 e_b02 e_b03 e_b10 e_b11 e_b12 e_b13 e_b20 e_b21 e_b22 e_b23 e_b30 e_b31 e_b32 e_b33 ⊢
    generalize lpOf (envV A) 7 bd7 = LP
    generalize evl (envV A) = E at e0 e1 e2 h1 h2 e_Ol e_P e_Pl e_Px e_Pj e_Pn e_im e_mm e_z e_mle hP hF h3 h4 h13 h14 e_a1 e_a2 e_a3 e_a4 e_a5 e_a6 e_a7 e_c1 e_c2 e_c3 e_c4 h11 h12 e_c5 e_2l e_2j e_2n e_2m h5 h6 h7 h8 h9 h10 hC hr e_b00 e_b01 e_b02 e_b03 e_b10 e_b11 e_b12 e_b13 e_b20 e_b21 e_b22 e_b23 e_b30 e_b31 e_b32 e_b33 ⊢
    obtain ⟨aadd, asub, amul, arem, aquo, awr, ashr, aeq, alt, ale, aseq, aslt, acat, acut, asiz, aat, anle, aneq, afit⟩ := A
    simp only at hnle hneq
    subst hnle hneq
    simp only at klt kle keq knle kneq
    try simp only at h1 h2 hP hF h3 h4 h13 h14 h11 h12 h5 h6 h7 h8 h9 h10 hC hr
    conv at e0 => lhs; cbv
    conv at e1 => lhs; cbv
    conv at e2 => lhs; cbv
    conv at e_Ol => lhs; cbv
    conv at e_P => lhs; cbv
    conv at e_Pl => lhs; cbv
    conv at e_Px => lhs; cbv
    conv at e_Pj => lhs; cbv
    conv at e_Pn => lhs; cbv
    conv at e_im => lhs; cbv
    conv at e_mm => lhs; cbv
    conv at e_z => lhs; cbv
    conv at e_mle => lhs; cbv
    conv at e_a1 => lhs; cbv
    conv at e_a2 => lhs; cbv
    conv at e_a3 => lhs; cbv
    conv at e_a4 => lhs; cbv
    conv at e_a5 => lhs; cbv
    conv at e_a6 => lhs; cbv
    conv at e_a7 => lhs; cbv
    conv at e_c1 => lhs; cbv
    conv at e_c2 => lhs; cbv
    conv at e_c3 => lhs; cbv
    conv at e_c4 => lhs; cbv
    conv at e_c5 => lhs; cbv
    conv at e_2l => lhs; cbv
    conv at e_2j => lhs; cbv
    conv at e_2n => lhs; cbv
    conv at e_2m => lhs; cbv
    conv at e_b00 => lhs; cbv
    conv at e_b01 => lhs; cbv
    conv at e_b02 => lhs; cbv
    conv at e_b03 => lhs; cbv
    conv at e_b10 => lhs; cbv
    conv at e_b11 => lhs; cbv
    conv at e_b12 => lhs; cbv
    conv at e_b13 => lhs; cbv
    conv at e_b20 => lhs; cbv
    conv at e_b21 => lhs; cbv
    conv at e_b22 => lhs; cbv
    conv at e_b23 => lhs; cbv
    conv at e_b30 => lhs; cbv
    conv at e_b31 => lhs; cbv
    conv at e_b32 => lhs; cbv
    conv at e_b33 => lhs; cbv
    cbv
    rewrite [e0]
    cbv
    rewrite [e_Ol]
    cbv
    rewrite [h1]
    cbv
    rewrite [e1]
    cbv
    rewrite [e_Ol]
    cbv
    rewrite [e_b00]
    cbv
    conv in (L16 _) => arg 1; cbv
    cbv
    rewrite [e_b00]
    cbv
    rewrite [e_Ol]
    cbv
    rewrite [e_P]
    cbv
    rewrite [e_Pl]
    cbv
    conv in (L16 _) => arg 1; cbv
    cbv
    rewrite [e_Pl]
    cbv
    rewrite [e_b00]
    cbv
    rewrite [e_Ol]
    cbv
    rewrite [e_b01]
    cbv
    rewrite [e_b10]
    cbv
    conv in (L16 _) => arg 1; cbv
    cbv
    rewrite [e_b00]
    cbv
    conv in (L16 _) => arg 1; cbv
    cbv
    rewrite [e_b00]
    cbv
    rewrite [e_Pl]
    cbv
    conv in (L16 _) => arg 1; cbv
    cbv
    rewrite [e_Pl]
    cbv
    rewrite [e_b00]
    cbv
    rewrite [e_Ol]
    cbv
    rewrite [e_b01]
    cbv
    rewrite [e_b10]
    cbv
    conv in (L16 _) => arg 1; cbv
    cbv
    rewrite [e_b00]
    cbv
    conv in (L16 _) => arg 1; cbv
    cbv
    rewrite [e_b00]
    cbv
    rewrite [e_Pl]
    cbv
    conv in (L16 _) => arg 1; cbv
    cbv
    rewrite [e_Pl]
    cbv
    rewrite [e_b00]
    cbv
    rewrite [e_Ol]
    cbv
    rewrite [e_b01]
    cbv
    rewrite [e_b10]
    cbv
    conv in (L16 _) => arg 1; cbv
    cbv
    rewrite [e_b00]
    cbv
    conv in (L16 _) => arg 1; cbv
    cbv
    rewrite [e_b00]
    cbv
    rewrite [hF]
    cbv
    rewrite [e_Px]
    cbv
    rewrite [hP]
    cbv
    rewrite [e_Pn]
    cbv
    rewrite [e_Pl]
    cbv
    rewrite [keq (2) (0)]
    cbv
    rewrite [e_Pl]
    cbv
    rewrite [e_b00]
    cbv
    rewrite [e_b01]
    cbv
    rewrite [e_b10]
    cbv
    rewrite [keq (2) (1)]
    cbv
    rewrite [e_b00]
    cbv
    rewrite [e_Pl]
    cbv
    rewrite [keq (2) (2)]
    cbv
    rewrite [e_Pl]
    cbv
    rewrite [e_b00]
    cbv
    rewrite [e_b01]
    cbv
    rewrite [e_b10]
    cbv
    rewrite [e_Pl]
    cbv
    rewrite [e_Pl]
    cbv
    rewrite [e_b00]
    cbv
    rewrite [e_b01]
    cbv
    rewrite [e_b10]
    cbv
    rewrite [e_Pl]
    cbv
    rewrite [e_Pl]
    cbv
    rewrite [e_b00]
    cbv
    rewrite [e_b01]
    cbv
    rewrite [e_b10]
    cbv
    rewrite [e_Px]
    cbv
    rewrite [e_b00]
    cbv
    rewrite [e_Pl]
    cbv
    rewrite [e_Pl]
    cbv
    rewrite [e_b00]
    cbv
    rewrite [e_b01]
    cbv
    rewrite [e_b10]
    cbv
    rewrite [e_Pl]
    cbv
    rewrite [e_Pl]
    cbv
    rewrite [e_b00]
    cbv
    rewrite [e_b01]
    cbv
    rewrite [e_b10]
    cbv
    rewrite [e_Pj]
    cbv
    rewrite [e_Pl]
    cbv
    rewrite [e_b00]
    cbv
    rewrite [e_b01]
    cbv
    rewrite [e_b10]
    cbv
    rewrite [e_Pl]
    cbv
    rewrite [e_Pl]
    cbv
    rewrite [e_b00]
    cbv
    rewrite [e_b01]
    cbv
    rewrite [e_b10]
    cbv
    rewrite [e_Pj]
    cbv
    rewrite [e_Pl]
    cbv
    rewrite [e_b00]
    cbv
    rewrite [e_b01]
    cbv
    rewrite [e_b10]
    cbv
    rewrite [h3]
    cbv
    rewrite [e_im]
    cbv
    rewrite [e_b00]
    cbv
    rewrite [e_Pl]
    cbv
    rewrite [h4]
    cbv
    rewrite [e_Pl]
    cbv
    rewrite [e_b00]
    cbv
    rewrite [e_b01]
    cbv
    rewrite [e_b10]
    cbv
    rewrite [h13]
    cbv
    rewrite [e_im]
    cbv
    rewrite [e_z]
    cbv
    rewrite [e_mle]
    cbv
    rewrite [e_c1]
    cbv
    rewrite [e_im]
    cbv
    rewrite [e_z]
    cbv
    rewrite [e_b00]
    cbv
    rewrite [e_a1]
    cbv
    rewrite [e_a2]
    cbv
    rewrite [e_a3]
    cbv
    rewrite [h11]
    cbv
    rewrite [e_im]
    cbv
    rewrite [e_a3]
    cbv
    rewrite [e_a6]
    cbv
    rewrite [e_a7]
    cbv
    rewrite [e_c3]
    cbv
    rewrite [e_2l]
    cbv
    rewrite [e_b00]
    cbv
    rewrite [e_b01]
    cbv
    rewrite [e_b10]
    cbv
    rewrite [h12]
    cbv
    rewrite [e_mm]
    cbv
    rewrite [e_z]
    cbv
    rewrite [e_mle]
    cbv
    rewrite [e_c2]
    cbv
    rewrite [e_mm]
    cbv
    rewrite [e_z]
    cbv
    rewrite [e_b00]
    cbv
    rewrite [e_a3]
    cbv
    rewrite [e_a3]
    cbv
    rewrite [e_a6]
    cbv
    rewrite [e_a7]
    cbv
    rewrite [e_2l]
    cbv
    rewrite [e_b00]
    cbv
    rewrite [e_b01]
    cbv
    rewrite [e_b10]
    cbv
    rewrite [e_a3]
    cbv
    rewrite [e_a3]
    cbv
    rewrite [e_a6]
    cbv
    rewrite [e_a7]
    cbv
    rewrite [e_2l]
    cbv
    rewrite [e_b00]
    cbv
    rewrite [e_b01]
    cbv
    rewrite [e_b10]
    cbv
    rewrite [e_a3]
    cbv
    rewrite [e_a3]
    cbv
    rewrite [e_a6]
    cbv
    rewrite [e_a7]
    cbv
    rewrite [e_2l]
    cbv
    rewrite [e_b00]
    cbv
    rewrite [e_b01]
    cbv
    rewrite [e_b10]
    cbv
    rewrite [h11]
    cbv
    rewrite [e_a3]
    cbv
    rewrite [e_a4]
    cbv
    rewrite [e_mm]
    cbv
    rewrite [e_a6]
    cbv
    rewrite [e_a7]
    cbv
    rewrite [e_c4]
    cbv
    rewrite [e_2l]
    cbv
    rewrite [e_b00]
    cbv
    rewrite [e_b01]
    cbv
    rewrite [e_b10]
    cbv
    rewrite [e_a3]
    cbv
    rewrite [h12]
    cbv
    rewrite [e_a3]
    cbv
    rewrite [e_a3]
    cbv
    rewrite [e_a6]
    cbv
    rewrite [e_a7]
    cbv
    rewrite [e_2l]
    cbv
    rewrite [e_b00]
    cbv
    rewrite [e_b10]
    cbv
    rewrite [e_b00]
    cbv
    rewrite [e_2l]
    cbv
    rewrite [e_2l]
    cbv
    rewrite [e_b00]
    cbv
    rewrite [e_2j]
    cbv
    rewrite [e_a3]
    cbv
    rewrite [e_a6]
    cbv
    rewrite [e_a7]
    cbv
    rewrite [e_2l]
    cbv
    rewrite [e_b00]
    cbv
    rewrite [e_b10]
    cbv
    rewrite [h5]
    cbv
    rewrite [e_2m]
    cbv
    rewrite [e_b00]
    cbv
    rewrite [h14]
    cbv
    rewrite [h8]
    cbv
    rewrite [e_b00]
    cbv
    rewrite [e_2l]
    cbv
    rewrite [e_2l]
    cbv
    rewrite [e_b00]
    cbv
    rewrite [e_2n]
    cbv
    rewrite [e_2j]
    cbv
    rewrite [e_2l]
    cbv
    rewrite [e_b00]
    cbv
    rewrite [h6]
    cbv
    rewrite [e_b00]
    cbv
    rewrite [e_2n]
    cbv
    rewrite [e_2n]
    cbv
    rewrite [h9]
    cbv
    rewrite [e_2j]
    cbv
    rewrite [h7]
    cbv
    rewrite [e_2n]
    cbv
    rewrite [e_2l]
    cbv
    rewrite [h10]
    cbv
    rewrite [e_2l]
    cbv
    rewrite [e_b00]
    cbv
    conv in (L54 _) => arg 1; cbv
    cbv
    rewrite [e_b00]
    cbv
    rewrite [e_2l]
    cbv
    conv in (L54 _) => arg 1; cbv
    cbv
    rewrite [e_2l]
    cbv
    rewrite [e_b00]
    cbv
    conv in (L54 _) => arg 1; cbv
    cbv
    rewrite [e_b00]
    cbv
    rewrite [hC]
    cbv
    rewrite [e_2l]
    cbv
    rewrite [h2]
    cbv
    conv in (L11 _) => arg 1; cbv
    cbv
    rewrite [e_2l]
    cbv
    rewrite [e_b00]
    cbv
    conv in (L11 _) => arg 1; cbv
    cbv
    rewrite [e_b00]
    cbv
    rewrite [hr]
    cbv
  ·
    rw [lp_step (envV A) 7 (c0 := bd7) (lv := lvF7) rfl rfl]
    have hnle := hA.nleE; have hneq := hA.neqE
    have klt := hA.lt; have kle := hA.le; have keq := hA.eq; have knle := hA.nle; have kneq := hA.neq
    rw [lp_split (lpOf (envV A) 7 bd7) 11]
    generalize lpOf (envV A) 7 bd7 11 = L11 at e0 e1 e2 h1 h2 e_Ol e_P e_Pl e_Px e_Pj e_Pn e_im e_mm e_z e_mle hP hF h3 h4 h13 h14 e_a1 e_a2 e_a3 e_a4 e_a5 e_a6 e_a7 e_c1 e_c2 e_c3 e_c4 h11 h12 e_c5 e_2l e_2j e_2n e_2m h5 h6 h7 h8 h9 h10 hC hr e_b00 e_b01 e_b02 e_b03 e_b10 e_b11 e_b12 e_b13 e_b20 e_b21 e_b22 e_b23 e_b30 e_b31 e_b32 e_b33 ⊢
    rw [lp_split (lpOf (envV A) 7 bd7) 16]
    generalize lpOf (envV A) 7 bd7 16 = L16 at e0 e1 e2 h1 h2 e_Ol e_P e_Pl e_Px e_Pj e_Pn e_im e_mm e_z e_mle hP hF h3 h4 h13 h14 e_a1 e_a2 e_a3 e_a4 e_a5 e_a6 e_a7 e_c1 e_c2 e_c3 e_c4 h11 h12 e_c5 e_2l e_2j e_2n e_2m h5 h6 h7 h8 h9 h10 hC hr e_b00 e_b01 e_b02 e_b03 e_b10 e_b11 e_b12 e_b13 e_b20 e_b21 e_b22 e_b23 e_b30 e_b31 e_b32 e_b33 ⊢
    rw [lp_split (lpOf (envV A) 7 bd7) 54]
    generalize lpOf (envV A) 7 bd7 54 = L54 at e0 e1 e2 h1 h2 e_Ol e_P e_Pl e_Px e_Pj e_Pn e_im e_mm e_z e_mle hP hF h3 h4 h13 h14 e_a1 e_a2 e_a3 e_a4 e_a5 e_a6 e_a7 e_c1 e_c2 e_c3 e_c4 h11 h12 e_c5 e_2l e_2j e_2n e_2m h5 h6 h7 h8 h9 h10 hC hr e_b00 e_b01 e_b02 e_b03 e_b10 e_b11 e_b12 e_b13 e_b20 e_b21 e_b22 e_b23 e_b30 e_b31 e_b32 e_b33 ⊢
    generalize lpOf (envV A) 7 bd7 = LP
    generalize evl (envV A) = E at e0 e1 e2 h1 h2 e_Ol e_P e_Pl e_Px e_Pj e_Pn e_im e_mm e_z e_mle hP hF h3 h4 h13 h14 e_a1 e_a2 e_a3 e_a4 e_a5 e_a6 e_a7 e_c1 e_c2 e_c3 e_c4 h11 h12 e_c5 e_2l e_2j e_2n e_2m h5 h6 h7 h8 h9 h10 hC hr e_b00 e_b01 e_b02 e_b03 e_b10 e_b11 e_b12 e_b13 e_b20 e_b21 e_b22 e_b23 e_b30 e_b31 e_b32 e_b33 ⊢
    obtain ⟨aadd, asub, amul, arem, aquo, awr, ashr, aeq, alt, ale, aseq, aslt, acat, acut, asiz, aat, anle, aneq, afit⟩ := A
    simp only at hnle hneq
    subst hnle hneq
    simp only at klt kle keq knle kneq
    try simp only at h1 h2 hP hF h3 h4 h13 h14 h11 h12 h5 h6 h7 h8 h9 h10 hC hr
    conv at e0 => lhs; cbv
    conv at e1 => lhs; cbv
    conv at e2 => lhs; cbv
    conv at e_Ol => lhs; cbv
    conv at e_P => lhs; cbv
    conv at e_Pl => lhs; cbv
    conv at e_Px => lhs; cbv
    conv at e_Pj => lhs; cbv
    conv at e_Pn => lhs; cbv
    conv at e_im => lhs; cbv
    conv at e_mm => lhs; cbv
    conv at e_z => lhs; cbv
    conv at e_mle => lhs; cbv
    conv at e_a1 => lhs; cbv
    conv at e_a2 => lhs; cbv
    conv at e_a3 => lhs; cbv
    conv at e_a4 => lhs; cbv
    conv at e_a5 => lhs; cbv
    conv at e_a6 => lhs; cbv
    conv at e_a7 => lhs; cbv
    conv at e_c1 => lhs; cbv
    conv at e_c2 => lhs; cbv
    conv at e_c3 => lhs; cbv
    conv at e_c4 => lhs; cbv
    conv at e_c5 => lhs; cbv
    conv at e_2l => lhs; cbv
    conv at e_2j => lhs; cbv
    conv at e_2n => lhs; cbv
    conv at e_2m => lhs; cbv
    conv at e_b00 => lhs; cbv
    conv at e_b01 => lhs; cbv
    conv at e_b02 => lhs; cbv
    conv at e_b03 => lhs; cbv
    conv at e_b10 => lhs; cbv
    conv at e_b11 => lhs; cbv
    conv at e_b12 => lhs; cbv
    conv at e_b13 => lhs; cbv
    conv at e_b20 => lhs; cbv
    conv at e_b21 => lhs; cbv
    conv at e_b22 => lhs; cbv
    conv at e_b23 => lhs; cbv
    conv at e_b30 => lhs; cbv
    conv at e_b31 => lhs; cbv
    conv at e_b32 => lhs; cbv
    conv at e_b33 => lhs; cbv
    cbv
    rewrite [e0]
    cbv
    rewrite [e_Ol]
    cbv
    rewrite [h1]
    cbv
    rewrite [e1]
    cbv
    rewrite [e_Ol]
    cbv
    rewrite [e_b00]
    cbv
    conv in (L16 _) => arg 1; cbv
    cbv
    rewrite [e_b00]
    cbv
    rewrite [e_Ol]
    cbv
    rewrite [e_P]
    cbv
    rewrite [e_Pl]
    cbv
    conv in (L16 _) => arg 1; cbv
    cbv
    rewrite [e_Pl]
    cbv
    rewrite [e_b00]
    cbv
    rewrite [e_Ol]
    cbv
    rewrite [e_b01]
    cbv
    rewrite [e_b10]
    cbv
    conv in (L16 _) => arg 1; cbv
    cbv
    rewrite [e_b00]
    cbv
    conv in (L16 _) => arg 1; cbv
    cbv
    rewrite [e_b00]
    cbv
    rewrite [e_Pl]
    cbv
    conv in (L16 _) => arg 1; cbv
    cbv
    rewrite [e_Pl]
    cbv
    rewrite [e_b00]
    cbv
    rewrite [e_Ol]
    cbv
    rewrite [e_b01]
    cbv
    rewrite [e_b10]
    cbv
    conv in (L16 _) => arg 1; cbv
    cbv
    rewrite [e_b00]
    cbv
    conv in (L16 _) => arg 1; cbv
    cbv
    rewrite [e_b00]
    cbv
    rewrite [e_Pl]
    cbv
    conv in (L16 _) => arg 1; cbv
    cbv
    rewrite [e_Pl]
    cbv
    rewrite [e_b00]
    cbv
    rewrite [e_Ol]
    cbv
    rewrite [e_b01]
    cbv
    rewrite [e_b10]
    cbv
    conv in (L16 _) => arg 1; cbv
    cbv
    rewrite [e_b00]
    cbv
    conv in (L16 _) => arg 1; cbv
    cbv
    rewrite [e_b00]
    cbv
    rewrite [hF]
    cbv
    rewrite [e_Px]
    cbv
    rewrite [hP]
    cbv
    rewrite [e_Pn]
    cbv
    rewrite [e_Pl]
    cbv
    rewrite [keq (3) (0)]
    cbv
    rewrite [e_Pl]
    cbv
    rewrite [e_b00]
    cbv
    rewrite [e_b01]
    cbv
    rewrite [e_b10]
    cbv
    rewrite [keq (3) (1)]
    cbv
    rewrite [e_b00]
    cbv
    rewrite [e_Pl]
    cbv
    rewrite [keq (3) (2)]
    cbv
    rewrite [e_Pl]
    cbv
    rewrite [e_b00]
    cbv
    rewrite [e_b01]
    cbv
    rewrite [e_b10]
    cbv
    rewrite [keq (3) (3)]
    cbv
    rewrite [e_b00]
    cbv
    rewrite [e_Pl]
    cbv
    rewrite [e_Pl]
    cbv
    rewrite [e_b00]
    cbv
    rewrite [e_b01]
    cbv
    rewrite [e_b10]
    cbv
    rewrite [e_Pl]
    cbv
    rewrite [e_Pl]
    cbv
    rewrite [e_b00]
    cbv
    rewrite [e_b01]
    cbv
    rewrite [e_b10]
    cbv
    rewrite [e_Pl]
    cbv
    rewrite [e_Pl]
    cbv
    rewrite [e_b00]
    cbv
    rewrite [e_b01]
    cbv
    rewrite [e_b10]
    cbv
    rewrite [e_Px]
    cbv
    rewrite [e_Pl]
    cbv
    rewrite [e_b00]
    cbv
    rewrite [e_b01]
    cbv
    rewrite [e_b10]
    cbv
    rewrite [e_Pl]
    cbv
    rewrite [e_Pl]
    cbv
    rewrite [e_b00]
    cbv
    rewrite [e_b01]
    cbv
    rewrite [e_b10]
    cbv
    rewrite [e_Pl]
    cbv
    rewrite [e_Pl]
    cbv
    rewrite [e_b00]
    cbv
    rewrite [e_b01]
    cbv
    rewrite [e_b10]
    cbv
    rewrite [e_Pj]
    cbv
    rewrite [e_b00]
    cbv
    rewrite [e_Pl]
    cbv
    rewrite [e_Pl]
    cbv
    rewrite [e_b00]
    cbv
    rewrite [e_b01]
    cbv
    rewrite [e_b10]
    cbv
    rewrite [e_Pl]
    cbv
    rewrite [e_Pl]
    cbv
    rewrite [e_b00]
    cbv
    rewrite [e_b01]
    cbv
    rewrite [e_b10]
    cbv
    rewrite [e_Pj]
    cbv
    rewrite [e_b00]
    cbv
    rewrite [e_Pl]
    cbv
    rewrite [h3]
    cbv
    rewrite [e_Pl]
    cbv
    rewrite [e_im]
    cbv
    rewrite [e_b00]
    cbv
    rewrite [e_b01]
    cbv
    rewrite [e_b10]
    cbv
    rewrite [h4]
    cbv
    rewrite [e_b00]
    cbv
    rewrite [e_Pl]
    cbv
    rewrite [h13]
    cbv
    rewrite [e_Pl]
    cbv
    rewrite [e_im]
    cbv
    rewrite [e_z]
    cbv
    rewrite [e_mle]
    cbv
    rewrite [e_c1]
    cbv
    rewrite [e_im]
    cbv
    rewrite [e_z]
    cbv
    rewrite [e_b00]
    cbv
    rewrite [e_b01]
    cbv
    rewrite [e_b10]
    cbv
    rewrite [e_a1]
    cbv
    rewrite [e_a2]
    cbv
    rewrite [e_a3]
    cbv
    rewrite [h11]
    cbv
    rewrite [e_im]
    cbv
    rewrite [e_a3]
    cbv
    rewrite [e_a6]
    cbv
    rewrite [e_a7]
    cbv
    rewrite [e_c3]
    cbv
    rewrite [e_2l]
    cbv
    rewrite [e_b00]
    cbv
    rewrite [e_b01]
    cbv
    rewrite [e_b10]
    cbv
    rewrite [h12]
    cbv
    rewrite [e_mm]
    cbv
    rewrite [e_z]
    cbv
    rewrite [e_mle]
    cbv
    rewrite [e_c2]
    cbv
    rewrite [e_mm]
    cbv
    rewrite [e_z]
    cbv
    rewrite [e_b00]
    cbv
    rewrite [e_a3]
    cbv
    rewrite [e_a3]
    cbv
    rewrite [e_a6]
    cbv
    rewrite [e_a7]
    cbv
    rewrite [e_2l]
    cbv
    rewrite [e_b00]
    cbv
    rewrite [e_b01]
    cbv
    rewrite [e_b10]
    cbv
    rewrite [e_a3]
    cbv
    rewrite [e_a3]
    cbv
    rewrite [e_a6]
    cbv
    rewrite [e_a7]
    cbv
    rewrite [e_2l]
    cbv
    rewrite [e_b00]
    cbv
    rewrite [e_b01]
    cbv
    rewrite [e_b10]
    cbv
    rewrite [e_a3]
    cbv
    rewrite [e_a3]
    cbv
    rewrite [e_a6]
    cbv
    rewrite [e_a7]
    cbv
    rewrite [e_2l]
    cbv
    rewrite [e_b00]
    cbv
    rewrite [e_b01]
    cbv
    rewrite [e_b10]
    cbv
    rewrite [h11]
    cbv
    rewrite [e_a3]
    cbv
    rewrite [e_a4]
    cbv
    rewrite [e_mm]
    cbv
    rewrite [e_a6]
    cbv
    rewrite [e_a7]
    cbv
    rewrite [e_c4]
    cbv
    rewrite [e_2l]
    cbv
    rewrite [e_b00]
    cbv
    rewrite [e_b01]
    cbv
    rewrite [e_b10]
    cbv
    rewrite [e_a3]
    cbv
    rewrite [h12]
    cbv
    rewrite [e_a3]
    cbv
    rewrite [e_a3]
    cbv
    rewrite [e_a6]
    cbv
    rewrite [e_a7]
    cbv
    rewrite [e_2l]
    cbv
    rewrite [e_b00]
    cbv
    rewrite [e_b10]
    cbv
    rewrite [e_b00]
    cbv
    rewrite [e_2l]
    cbv
    rewrite [e_2l]
    cbv
    rewrite [e_b00]
    cbv
    rewrite [e_2j]
    cbv
    rewrite [e_a3]
    cbv
    rewrite [e_a6]
    cbv
    rewrite [e_a7]
    cbv
    rewrite [e_2l]
    cbv
    rewrite [e_b00]
    cbv
    rewrite [e_b10]
    cbv
    rewrite [h5]
    cbv
    rewrite [e_2m]
    cbv
    rewrite [e_b00]
    cbv
    rewrite [h14]
    cbv
    rewrite [h8]
    cbv
    rewrite [e_b00]
    cbv
    rewrite [e_2l]
    cbv
    rewrite [e_2l]
    cbv
    rewrite [e_b00]
    cbv
    rewrite [e_2n]
    cbv
    rewrite [e_2j]
    cbv
    rewrite [e_2l]
    cbv
    rewrite [e_b00]
    cbv
    rewrite [h6]
    cbv
    rewrite [e_b00]
    cbv
    rewrite [e_2n]
    cbv
    rewrite [e_2n]
    cbv
    rewrite [h9]
    cbv
    rewrite [e_2j]
    cbv
    rewrite [h7]
    cbv
    rewrite [e_2n]
    cbv
    rewrite [e_2l]
    cbv
    rewrite [h10]
    cbv
    rewrite [e_2l]
    cbv
    rewrite [e_b00]
    cbv
    conv in (L54 _) => arg 1; cbv
    cbv
    rewrite [e_b00]
    cbv
    rewrite [e_2l]
    cbv
    conv in (L54 _) => arg 1; cbv
    cbv
    rewrite [e_2l]
    cbv
    rewrite [e_b00]
    cbv
    conv in (L54 _) => arg 1; cbv
    cbv
    rewrite [e_b00]
    cbv
    rewrite [hC]
    cbv
    rewrite [e_2l]
    cbv
    rewrite [h2]
    cbv
    conv in (L11 _) => arg 1; cbv
    cbv
    rewrite [e_2l]
    cbv
    rewrite [e_b00]
    cbv
    conv in (L11 _) => arg 1; cbv
    cbv
    rewrite [e_b00]
    cbv
    rewrite [hr]
    cbv
end
end ArInt
end Go.Va
namespace Go.Va
open Go.Proofs
set_option maxRecDepth 100000
set_option maxHeartbeats 40000000
namespace ArInt
section
variable (A : Ar) (hA : ArOk A) (ss fs ss2 fs2 ds is ms is2 ms2 ia ib ma mb : List AV) (n m m2 i j k p : Nat) (room last l2 id d rl nx nx2 at_ w x y q : Int) (O P P2 O2 Q Q2 : Seg)
include hA
theorem lp_ap_putB {r : Option Res} (e0 : ds.length = n) (e1 : lget ds i = some (.agg [.s (.int .i64 w), .s (.int .i64 d), .s (.int .i64 x)])) (e2 : Nat.ble (Nat.succ i) n = true) (h1 : A.lt (.ofNat i) (.ofNat n) = true) (h2 : A.add .i64 (.ofNat i) 1 = .ofNat (Nat.succ i)) (e_Ol : O.length = Nat.succ j) (e_P : O ++ [[.s (.int .i64 w), .s (.int .i64 d), .s (.int .i64 x)]] = P) (e_Pl : P.length = Nat.succ (Nat.succ j)) (e_Px : lget P (Nat.succ j) = some [.s (.int .i64 w), .s (.int .i64 d), .s (.int .i64 x)]) (e_Pj : lget P j = some [.sl 2 ss .full, .sl 1 fs .full, .s (.int .i64 room), .s (.int .i64 rl)]) (e_Pn : P ++ [] = P) (e_im : is.length = m) (e_mm : ms.length = m) (e_z : 0 + m = m) (e_mle : Nat.ble m m = true) (hP : evl (envV A) (.call 35 [.s (.int .i64 w), .s (.int .i64 8)] []) = some (.ret (.s (.int .i64 q)) [])) (hF : lpOf (envV A) 7 bd7 16 (stF room ds is ms nx P j i (-1) 0) = some (.code (.exit 2) (stFe room ds is ms nx P j i at_ m))) (h3 : evl (envV A) (.call 36 [.ptr 0 0, .s (.int .i64 x)] [arO ss fs room rl]) = some (.ret (.tup [.s (.int .i64 0), .s (.iface 45 (.int .i64 6))]) [arO ss fs room rl])) (h4 : A.le room (.ofNat m) = true) (h13 : evl (envV A) (.call 37 [.s (.iface 45 (.int .i64 6))] []) = some (.ret (.s (.int .i64 6)) [])) (e_a1 : lset P j [.sl 2 ss .full, .sl 1 fs .full, .s (.int .i64 room), .s (.int .i64 rl)] = P2) (e_a2 : P2 ++ [] = P2) (e_a3 : P2.length = Nat.succ (Nat.succ j)) (e_a4 : lget P2 (Nat.succ j) = some [.s (.int .i64 w), .s (.int .i64 d), .s (.int .i64 x)]) (e_a5 : lget P2 j = some [.sl 2 ss .full, .sl 1 fs .full, .s (.int .i64 room), .s (.int .i64 rl)]) (e_a6 : P2.dropLast = O2) (e_a7 : refSeg (Nat.succ j) O2 = false) (e_2l : O2.length = Nat.succ (j)) (e_2j : lget O2 (j) = some [.sl 2 ss .full, .sl 1 fs .full, .s (.int .i64 room), .s (.int .i64 rl)]) (e_2n : O2 ++ [] = O2) (e_2m : is.length = m) (h5 : evl (envV A) (.call 41 [arV ss fs room rl] []) = some (.ret (.s (.int .i64 (.ofNat m))) [])) (h6 : evl (envV A) (.call 42 [arV ss fs room rl] []) = some (.ret (.s (.int .i64 nx)) [])) (h7 : evl (envV A) (.call 43 [arV ss fs room rl] []) = some (.ret (.s (.int .i64 room)) [])) (h8 : A.eq (.ofNat m) (.ofNat m) = true) (h9 : A.eq nx nx = true) (h10 : A.eq room room = true) (hC : lpOf (envV A) 7 bd7 54 (stC room ds is ms nx O2 (j) i 0) = some (.code (.exit 5) (stCe room ds is ms nx O2 (j) i m))) (hr : lpOf (envV A) 7 bd7 11 (stL room ds is ms nx O2 (j) (Nat.succ i)) = r) (e_b00 : Nat.beq (j) (j) = true) (e_b01 : Nat.beq (j) (Nat.succ j) = false) (e_b02 : Nat.beq (j) (Nat.succ (Nat.succ j)) = false) (e_b03 : Nat.beq (j) (Nat.succ (Nat.succ (Nat.succ j))) = false) (e_b10 : Nat.beq (Nat.succ j) (j) = false) (e_b11 : Nat.beq (Nat.succ j) (Nat.succ j) = true) (e_b12 : Nat.beq (Nat.succ j) (Nat.succ (Nat.succ j)) = false) (e_b13 : Nat.beq (Nat.succ j) (Nat.succ (Nat.succ (Nat.succ j))) = false) (e_b20 : Nat.beq (Nat.succ (Nat.succ j)) (j) = false) (e_b21 : Nat.beq (Nat.succ (Nat.succ j)) (Nat.succ j) = false) (e_b22 : Nat.beq (Nat.succ (Nat.succ j)) (Nat.succ (Nat.succ j)) = true) (e_b23 : Nat.beq (Nat.succ (Nat.succ j)) (Nat.succ (Nat.succ (Nat.succ j))) = false) (e_b30 : Nat.beq (Nat.succ (Nat.succ (Nat.succ j))) (j) = false) (e_b31 : Nat.beq (Nat.succ (Nat.succ (Nat.succ j))) (Nat.succ j) = false) (e_b32 : Nat.beq (Nat.succ (Nat.succ (Nat.succ j))) (Nat.succ (Nat.succ j)) = false) (e_b33 : Nat.beq (Nat.succ (Nat.succ (Nat.succ j))) (Nat.succ (Nat.succ (Nat.succ j))) = true) (hq : q = 0 ∨ q = 1 ∨ q = 2 ∨ q = 3) :
    lpOf (envV A) 7 bd7 11 (stL room ds is ms nx O j i) = r := by
  unfold stF stFe at hF; unfold stC stCe at hC; unfold stL at hr ⊢; unfold arO at *; unfold arV at *
  simp only [show Int.ofNat 0 = 0 from rfl] at hF hC
  rcases hq with rfl | rfl | rfl | rfl
  ·
    rw [lp_step (envV A) 7 (c0 := bd7) (lv := lvF7) rfl rfl]
    have hnle := hA.nleE; have hneq := hA.neqE
    have klt := hA.lt; have kle := hA.le; have keq := hA.eq; have knle := hA.nle; have kneq := hA.neq
    rw [lp_split (lpOf (envV A) 7 bd7) 11]
    generalize lpOf (envV A) 7 bd7 11 = L11 at e0 e1 e2 h1 h2 e_Ol e_P e_Pl e_Px e_Pj e_Pn e_im e_mm e_z e_mle hP hF h3 h4 h13 e_a1 e_a2 e_a3 e_a4 e_a5 e_a6 e_a7 e_2l e_2j e_2n e_2m h5 h6 h7 h8 h9 h10 hC hr e_b00 e_b01 e_b02 e_b03 e_b10 e_b11 e_b12 e_b13 e_b20 e_b21 e_b22 e_b23 e_b30 e_b31 e_b32 e_b33 ⊢
    rw [lp_split (lpOf (envV A) 7 bd7) 16]
    generalize lpOf (envV A) 7 bd7 16 = L16 at e0 e1 e2 h1 h2 e_Ol e_P e_Pl e_Px e_Pj e_Pn e_im e_mm e_z e_mle hP hF h3 h4 h13 e_a1 e_a2 e_a3 e_a4 e_a5 e_a6 e_a7 e_2l e_2j e_2n e_2m h5 h6 h7 h8 h9 h10 hC hr e_b00 e_b01 e_b02 e_b03 e_b10 e_b11 e_b12 e_b13 e_b20 e_b21 e_b22 e_b23 e_b30 e_b31 e_b32 e_b33 ⊢
    rw [lp_split (lpOf (envV A) 7 bd7) 54]
    generalize lpOf (envV A) 7 bd7 54 = L54 at e0 e1 e2 h1 h2 e_Ol e_P e_Pl e_Px e_Pj e_Pn e_im e_mm e_z e_mle hP hF h3 h4 h13 e_a1 e_a2 e_a3 e_a4 e_a5 e_a6 e_a7 e_2l e_2j e_2n e_2m h5 h6 h7 h8 h9 h10 hC hr e_b00 e_b01 e_b02 e_b03 e_b10 e_b11 e_b12 e_b13 e_b20 e_b21 e_b22 e_b23 e_b30 e_b31 e_b32 e_b33 ⊢
    generalize lpOf (envV A) 7 bd7 = LP
    generalize evl (envV A) = E at e0 e1 e2 h1 h2 e_Ol e_P e_Pl e_Px e_Pj e_Pn e_im e_mm e_z e_mle hP hF h3 h4 h13 e_a1 e_a2 e_a3 e_a4 e_a5 e_a6 e_a7 e_2l e_2j e_2n e_2m h5 h6 h7 h8 h9 h10 hC hr e_b00 e_b01 e_b02 e_b03 e_b10 e_b11 e_b12 e_b13 e_b20 e_b21 e_b22 e_b23 e_b30 e_b31 e_b32 e_b33 ⊢
    obtain ⟨aadd, asub, amul, arem, aquo, awr, ashr, aeq, alt, ale, aseq, aslt, acat, acut, asiz, aat, anle, aneq, afit⟩ := A
    simp only at hnle hneq
    subst hnle hneq
    simp only at klt kle keq knle kneq
    try simp only at h1 h2 hP hF h3 h4 h13 h5 h6 h7 h8 h9 h10 hC hr
    conv at e0 => lhs; cbv
    conv at e1 => lhs; cbv
    conv at e2 => lhs; cbv
    conv at e_Ol => lhs; cbv
    conv at e_P => lhs; cbv
    conv at e_Pl => lhs; cbv
    conv at e_Px => lhs; cbv
    conv at e_Pj => lhs; cbv
    conv at e_Pn => lhs; cbv
    conv at e_im => lhs; cbv
    conv at e_mm => lhs; cbv
    conv at e_z => lhs; cbv
    conv at e_mle => lhs; cbv
    conv at e_a1 => lhs; cbv
    conv at e_a2 => lhs; cbv
    conv at e_a3 => lhs; cbv
    conv at e_a4 => lhs; cbv
    conv at e_a5 => lhs; cbv
    conv at e_a6 => lhs; cbv
    conv at e_a7 => lhs; cbv
    conv at e_2l => lhs; cbv
    conv at e_2j => lhs; cbv
    conv at e_2n => lhs; cbv
    conv at e_2m => lhs; cbv
    conv at e_b00 => lhs; cbv
    conv at e_b01 => lhs; cbv
    conv at e_b02 => lhs; cbv
    conv at e_b03 => lhs; cbv
    conv at e_b10 => lhs; cbv
    conv at e_b11 => lhs; cbv
    conv at e_b12 => lhs; cbv
    conv at e_b13 => lhs; cbv
    conv at e_b20 => lhs; cbv
    conv at e_b21 => lhs; cbv
    conv at e_b22 => lhs; cbv
    conv at e_b23 => lhs; cbv
    conv at e_b30 => lhs; cbv
    conv at e_b31 => lhs; cbv
    conv at e_b32 => lhs; cbv
    conv at e_b33 => lhs; cbv
    cbv
    rewrite [e0]
    cbv
    rewrite [e_Ol]
    cbv
    rewrite [h1]
    cbv
    rewrite [e1]
    cbv
    rewrite [e_Ol]
    cbv
    rewrite [e_b00]
    cbv
    conv in (L16 _) => arg 1; cbv
    cbv
    rewrite [e_b00]
    cbv
    rewrite [e_Ol]
    cbv
    rewrite [e_P]
    cbv
    rewrite [e_Pl]
    cbv
    conv in (L16 _) => arg 1; cbv
    cbv
    rewrite [e_Pl]
    cbv
    rewrite [e_b00]
    cbv
    rewrite [e_Ol]
    cbv
    rewrite [e_b01]
    cbv
    rewrite [e_b10]
    cbv
    conv in (L16 _) => arg 1; cbv
    cbv
    rewrite [e_b00]
    cbv
    conv in (L16 _) => arg 1; cbv
    cbv
    rewrite [e_b00]
    cbv
    rewrite [e_Pl]
    cbv
    conv in (L16 _) => arg 1; cbv
    cbv
    rewrite [e_Pl]
    cbv
    rewrite [e_b00]
    cbv
    rewrite [e_Ol]
    cbv
    rewrite [e_b01]
    cbv
    rewrite [e_b10]
    cbv
    conv in (L16 _) => arg 1; cbv
    cbv
    rewrite [e_b00]
    cbv
    conv in (L16 _) => arg 1; cbv
    cbv
    rewrite [e_b00]
    cbv
    rewrite [e_Pl]
    cbv
    conv in (L16 _) => arg 1; cbv
    cbv
    rewrite [e_Pl]
    cbv
    rewrite [e_b00]
    cbv
    rewrite [e_Ol]
    cbv
    rewrite [e_b01]
    cbv
    rewrite [e_b10]
    cbv
    conv in (L16 _) => arg 1; cbv
    cbv
    rewrite [e_b00]
    cbv
    conv in (L16 _) => arg 1; cbv
    cbv
    rewrite [e_b00]
    cbv
    rewrite [hF]
    cbv
    rewrite [e_Px]
    cbv
    rewrite [hP]
    cbv
    rewrite [e_Pn]
    cbv
    rewrite [e_Pl]
    cbv
    rewrite [keq (0) (0)]
    cbv
    rewrite [e_Pl]
    cbv
    rewrite [e_b00]
    cbv
    rewrite [e_b01]
    cbv
    rewrite [e_b10]
    cbv
    rewrite [e_Pl]
    cbv
    rewrite [e_Pl]
    cbv
    rewrite [e_b00]
    cbv
    rewrite [e_b01]
    cbv
    rewrite [e_b10]
    cbv
    rewrite [e_Px]
    cbv
    rewrite [e_b00]
    cbv
    rewrite [e_Pl]
    cbv
    rewrite [e_Pl]
    cbv
    rewrite [e_b00]
    cbv
    rewrite [e_b01]
    cbv
    rewrite [e_b10]
    cbv
    rewrite [e_Pj]
    cbv
    rewrite [e_Pl]
    cbv
    rewrite [e_b00]
    cbv
    rewrite [e_b01]
    cbv
    rewrite [e_b10]
    cbv
    rewrite [e_Pj]
    cbv
    rewrite [e_Pl]
    cbv
    rewrite [e_b00]
    cbv
    rewrite [e_b01]
    cbv
    rewrite [e_b10]
    cbv
    rewrite [h3]
    cbv
    rewrite [e_im]
    cbv
    rewrite [e_b00]
    cbv
    rewrite [e_a1]
    cbv
    rewrite [e_a2]
    cbv
    rewrite [e_a3]
    cbv
    rewrite [h4]
    cbv
    rewrite [e_a3]
    cbv
    rewrite [e_a6]
    cbv
    rewrite [e_a7]
    cbv
    rewrite [e_2l]
    cbv
    rewrite [e_b00]
    cbv
    rewrite [e_b01]
    cbv
    rewrite [e_b10]
    cbv
    rewrite [h13]
    cbv
    rewrite [e_b00]
    cbv
    rewrite [e_a3]
    cbv
    rewrite [keq (6) (6)]
    cbv
    rewrite [e_a3]
    cbv
    rewrite [e_a6]
    cbv
    rewrite [e_a7]
    cbv
    rewrite [e_2l]
    cbv
    rewrite [e_b00]
    cbv
    rewrite [e_b01]
    cbv
    rewrite [e_b10]
    cbv
    rewrite [keq (0) (0)]
    cbv
    rewrite [e_b00]
    cbv
    rewrite [e_a2]
    cbv
    rewrite [e_a3]
    cbv
    rewrite [e_a3]
    cbv
    rewrite [e_a6]
    cbv
    rewrite [e_a7]
    cbv
    rewrite [e_2l]
    cbv
    rewrite [e_b00]
    cbv
    rewrite [e_b10]
    cbv
    rewrite [e_b00]
    cbv
    rewrite [e_2j]
    cbv
    rewrite [e_a3]
    cbv
    rewrite [e_a6]
    cbv
    rewrite [e_a7]
    cbv
    rewrite [e_2l]
    cbv
    rewrite [e_b00]
    cbv
    rewrite [e_b10]
    cbv
    rewrite [h5]
    cbv
    rewrite [e_im]
    cbv
    rewrite [e_b00]
    cbv
    rewrite [h8]
    cbv
    rewrite [e_b00]
    cbv
    rewrite [e_2n]
    cbv
    rewrite [e_2j]
    cbv
    rewrite [h6]
    cbv
    rewrite [e_2n]
    cbv
    rewrite [h9]
    cbv
    rewrite [e_2j]
    cbv
    rewrite [h7]
    cbv
    rewrite [e_2n]
    cbv
    rewrite [e_2l]
    cbv
    rewrite [h10]
    cbv
    rewrite [e_2l]
    cbv
    rewrite [e_b00]
    cbv
    conv in (L54 _) => arg 1; cbv
    cbv
    rewrite [e_b00]
    cbv
    rewrite [e_2l]
    cbv
    conv in (L54 _) => arg 1; cbv
    cbv
    rewrite [e_2l]
    cbv
    rewrite [e_b00]
    cbv
    conv in (L54 _) => arg 1; cbv
    cbv
    rewrite [e_b00]
    cbv
    rewrite [hC]
    cbv
    rewrite [e_2l]
    cbv
    rewrite [h2]
    cbv
    conv in (L11 _) => arg 1; cbv
    cbv
    rewrite [e_2l]
    cbv
    rewrite [e_b00]
    cbv
    conv in (L11 _) => arg 1; cbv
    cbv
    rewrite [e_b00]
    cbv
    rewrite [hr]
    cbv
  ·
    rw [lp_step (envV A) 7 (c0 := bd7) (lv := lvF7) rfl rfl]
    have hnle := hA.nleE; have hneq := hA.neqE
    have klt := hA.lt; have kle := hA.le; have keq := hA.eq; have knle := hA.nle; have kneq := hA.neq
    rw [lp_split (lpOf (envV A) 7 bd7) 11]
    generalize lpOf (envV A) 7 bd7 11 = L11 at e0 e1 e2 h1 h2 e_Ol e_P e_Pl e_Px e_Pj e_Pn e_im e_mm e_z e_mle hP hF h3 h4 h13 e_a1 e_a2 e_a3 e_a4 e_a5 e_a6 e_a7 e_2l e_2j e_2n e_2m h5 h6 h7 h8 h9 h10 hC hr e_b00 e_b01 e_b02 e_b03 e_b10 e_b11 e_b12 e_b13 e_b20 e_b21 e_b22 e_b23 e_b30 e_b31 e_b32 e_b33 ⊢
    rw [lp_split (lpOf (envV A) 7 bd7) 16]
    generalize lpOf (envV A) 7 bd7 16 = L16 at e0 e1 e2 h1 h2 e_Ol e_P e_Pl e_Px e_Pj e_Pn e_im e_mm e_z e_mle hP hF h3 h4 h13 e_a1 e_a2 e_a3 e_a4 e_a5 e_a6 e_a7 e_2l e_2j e_2n e_2m h5 h6 h7 h8 h9 h10 hC hr e_b00 e_b01 e_b02 e_b03 e_b10 e_b11 e_b12 e_b13 e_b20 e_b21 e_b22 e_b23 e_b30 e_b31 e_b32 e_b33 ⊢
    rw [lp_split (lpOf (envV A) 7 bd7) 54]
    generalize lpOf (envV A) 7 bd7 54 = L54 at e0 e1 e2 h1 h2 e_Ol e_P e_Pl e_Px e_Pj e_Pn e_im e_mm e_z e_mle hP hF h3 h4 h13 e_a1 e_a2 e_a3 e_a4 e_a5 e_a6 e_a7 e_2l e_2j e_2n e_2m h5 h6 h7 h8 h9 h10 hC hr e_b00 e_b01 e_b02 e_b03 e_b10 e_b11 e_b12 e_b13 e_b20 e_b21 e_b22 e_b23 e_b30 e_b31 e_b32 e_b33 ⊢
    generalize lpOf (envV A) 7 bd7 = LP
    generalize evl (envV A) = E at e0 e1 e2 h1 h2 e_Ol e_P e_Pl e_Px e_Pj e_Pn e_im e_mm e_z e_mle hP hF h3 h4 h13 e_a1 e_a2 e_a3 e_a4 e_a5 e_a6 e_a7 e_2l e_2j e_2n e_2m h5 h6 h7 h8 h9 h10 hC hr e_b00 e_b01 e_b02 e_b03 e_b10 e_b11 e_b12 e_b13 e_b20 e_b21 e_b22 e_b23 e_b30 e_b31 e_b32 e_b33 ⊢
    obtain ⟨aadd, asub, amul, arem, aquo, awr, ashr, aeq, alt, ale, aseq, aslt, acat, acut, asiz, aat, anle, aneq, afit⟩ := A
    simp only at hnle hneq
    subst hnle hneq
    simp only at klt kle keq knle kneq
    try simp only at h1 h2 hP hF h3 h4 h13 h5 h6 h7 h8 h9 h10 hC hr
    conv at e0 => lhs; cbv
    conv at e1 => lhs; cbv
    conv at e2 => lhs; cbv
    conv at e_Ol => lhs; cbv
    conv at e_P => lhs; cbv
    conv at e_Pl => lhs; cbv
    conv at e_Px => lhs; cbv
    conv at e_Pj => lhs; cbv
    conv at e_Pn => lhs; cbv
    conv at e_im => lhs; cbv
    conv at e_mm => lhs; cbv
    conv at e_z => lhs; cbv
    conv at e_mle => lhs; cbv
    conv at e_a1 => lhs; cbv
    conv at e_a2 => lhs; cbv
    conv at e_a3 => lhs; cbv
    conv at e_a4 => lhs; cbv
    conv at e_a5 => lhs; cbv
    conv at e_a6 => lhs; cbv
    conv at e_a7 => lhs; cbv
    conv at e_2l => lhs; cbv
    conv at e_2j => lhs; cbv
    conv at e_2n => lhs; cbv
    conv at e_2m => lhs; cbv
    conv at e_b00 => lhs; cbv
    conv at e_b01 => lhs; cbv
    conv at e_b02 => lhs; cbv
    conv at e_b03 => lhs; cbv
    conv at e_b10 => lhs; cbv
    conv at e_b11 => lhs; cbv
    conv at e_b12 => lhs; cbv
    conv at e_b13 => lhs; cbv
    conv at e_b20 => lhs; cbv
    conv at e_b21 => lhs; cbv
    conv at e_b22 => lhs; cbv
    conv at e_b23 => lhs; cbv
    conv at e_b30 => lhs; cbv
    conv at e_b31 => lhs; cbv
    conv at e_b32 => lhs; cbv
    conv at e_b33 => lhs; cbv
    cbv
    rewrite [e0]
    cbv
    rewrite [e_Ol]
    cbv
    rewrite [h1]
    cbv
    rewrite [e1]
    cbv
    rewrite [e_Ol]
    cbv
    rewrite [e_b00]
    cbv
    conv in (L16 _) => arg 1; cbv
    cbv
    rewrite [e_b00]
    cbv
    rewrite [e_Ol]
    cbv
    rewrite [e_P]
    cbv
    rewrite [e_Pl]
    cbv
    conv in (L16 _) => arg 1; cbv
    cbv
    rewrite [e_Pl]
    cbv
    rewrite [e_b00]
    cbv
    rewrite [e_Ol]
    cbv
    rewrite [e_b01]
    cbv
    rewrite [e_b10]
    cbv
    conv in (L16 _) => arg 1; cbv
    cbv
    rewrite [e_b00]
    cbv
    conv in (L16 _) => arg 1; cbv
    cbv
    rewrite [e_b00]
    cbv
    rewrite [e_Pl]
    cbv
    conv in (L16 _) => arg 1; cbv
    cbv
    rewrite [e_Pl]
    cbv
    rewrite [e_b00]
    cbv
    rewrite [e_Ol]
    cbv
    rewrite [e_b01]
    cbv
    rewrite [e_b10]
    cbv
    conv in (L16 _) => arg 1; cbv
    cbv
    rewrite [e_b00]
    cbv
    conv in (L16 _) => arg 1; cbv
    cbv
    rewrite [e_b00]
    cbv
    rewrite [e_Pl]
    cbv
    conv in (L16 _) => arg 1; cbv
    cbv
    rewrite [e_Pl]
    cbv
    rewrite [e_b00]
    cbv
    rewrite [e_Ol]
    cbv
    rewrite [e_b01]
    cbv
    rewrite [e_b10]
    cbv
    conv in (L16 _) => arg 1; cbv
    cbv
    rewrite [e_b00]
    cbv
    conv in (L16 _) => arg 1; cbv
    cbv
    rewrite [e_b00]
    cbv
    rewrite [hF]
    cbv
    rewrite [e_Px]
    cbv
    rewrite [hP]
    cbv
    rewrite [e_Pn]
    cbv
    rewrite [e_Pl]
    cbv
    rewrite [keq (1) (0)]
    cbv
    rewrite [e_Pl]
    cbv
    rewrite [e_b00]
    cbv
    rewrite [e_b01]
    cbv
    rewrite [e_b10]
    cbv
    rewrite [keq (1) (1)]
    cbv
    rewrite [e_b00]
    cbv
    rewrite [e_Pl]
    cbv
    rewrite [e_Pl]
    cbv
    rewrite [e_b00]
    cbv
    rewrite [e_b01]
    cbv
    rewrite [e_b10]
    cbv
    rewrite [e_Pl]
    cbv
    rewrite [e_Pl]
    cbv
    rewrite [e_b00]
    cbv
    rewrite [e_b01]
    cbv
    rewrite [e_b10]
    cbv
    rewrite [e_Px]
    cbv
    rewrite [e_Pl]
    cbv
    rewrite [e_b00]
    cbv
    rewrite [e_b01]
    cbv
    rewrite [e_b10]
    cbv
    rewrite [e_Pl]
    cbv
    rewrite [e_Pl]
    cbv
    rewrite [e_b00]
    cbv
    rewrite [e_b01]
    cbv
    rewrite [e_b10]
    cbv
    rewrite [e_Pj]
    cbv
    rewrite [e_b00]
    cbv
    rewrite [e_Pl]
    cbv
    rewrite [e_Pl]
    cbv
    rewrite [e_b00]
    cbv
    rewrite [e_b01]
    cbv
    rewrite [e_b10]
    cbv
    rewrite [e_Pj]
    cbv
    rewrite [e_b00]
    cbv
    rewrite [e_Pl]
    cbv
    rewrite [h3]
    cbv
    rewrite [e_Pl]
    cbv
    rewrite [e_im]
    cbv
    rewrite [e_b00]
    cbv
    rewrite [e_b01]
    cbv
    rewrite [e_b10]
    cbv
    rewrite [h4]
    cbv
    rewrite [e_b00]
    cbv
    rewrite [e_a1]
    cbv
    rewrite [e_a2]
    cbv
    rewrite [e_a3]
    cbv
    rewrite [h13]
    cbv
    rewrite [e_a3]
    cbv
    rewrite [e_a6]
    cbv
    rewrite [e_a7]
    cbv
    rewrite [e_2l]
    cbv
    rewrite [e_b00]
    cbv
    rewrite [e_b01]
    cbv
    rewrite [e_b10]
    cbv
    rewrite [keq (6) (6)]
    cbv
    rewrite [e_b00]
    cbv
    rewrite [e_a3]
    cbv
    rewrite [keq (0) (0)]
    cbv
    rewrite [e_a3]
    cbv
    rewrite [e_a6]
    cbv
    rewrite [e_a7]
    cbv
    rewrite [e_2l]
    cbv
    rewrite [e_b00]
    cbv
    rewrite [e_b01]
    cbv
    rewrite [e_b10]
    cbv
    rewrite [e_a2]
    cbv
    rewrite [e_a3]
    cbv
    rewrite [e_a3]
    cbv
    rewrite [e_a6]
    cbv
    rewrite [e_a7]
    cbv
    rewrite [e_2l]
    cbv
    rewrite [e_b00]
    cbv
    rewrite [e_b10]
    cbv
    rewrite [e_b00]
    cbv
    rewrite [e_2j]
    cbv
    rewrite [e_b00]
    cbv
    rewrite [e_a2]
    cbv
    rewrite [e_a3]
    cbv
    rewrite [h5]
    cbv
    rewrite [e_im]
    cbv
    rewrite [e_a3]
    cbv
    rewrite [e_a6]
    cbv
    rewrite [e_a7]
    cbv
    rewrite [e_2l]
    cbv
    rewrite [e_b00]
    cbv
    rewrite [e_b10]
    cbv
    rewrite [h8]
    cbv
    rewrite [e_b00]
    cbv
    rewrite [e_b00]
    cbv
    rewrite [e_2n]
    cbv
    rewrite [e_2j]
    cbv
    rewrite [e_b00]
    cbv
    rewrite [e_2n]
    cbv
    rewrite [h6]
    cbv
    rewrite [e_2n]
    cbv
    rewrite [h9]
    cbv
    rewrite [e_2j]
    cbv
    rewrite [h7]
    cbv
    rewrite [e_2n]
    cbv
    rewrite [e_2l]
    cbv
    rewrite [h10]
    cbv
    rewrite [e_2l]
    cbv
    rewrite [e_b00]
    cbv
    conv in (L54 _) => arg 1; cbv
    cbv
    rewrite [e_b00]
    cbv
    rewrite [e_2l]
    cbv
    conv in (L54 _) => arg 1; cbv
    cbv
    rewrite [e_2l]
    cbv
    rewrite [e_b00]
    cbv
    conv in (L54 _) => arg 1; cbv
    cbv
    rewrite [e_b00]
    cbv
    rewrite [hC]
    cbv
    rewrite [e_2l]
    cbv
    rewrite [h2]
    cbv
    conv in (L11 _) => arg 1; cbv
    cbv
    rewrite [e_2l]
    cbv
    rewrite [e_b00]
    cbv
    conv in (L11 _) => arg 1; cbv
    cbv
    rewrite [e_b00]
    cbv
    rewrite [hr]
    cbv
  ·
    rw [lp_step (envV A) 7 (c0 := bd7) (lv := lvF7) rfl rfl]
    have hnle := hA.nleE; have hneq := hA.neqE
    have klt := hA.lt; have kle := hA.le; have keq := hA.eq; have knle := hA.nle; have kneq := hA.neq
    rw [lp_split (lpOf (envV A) 7 bd7) 11]
    generalize lpOf (envV A) 7 bd7 11 = L11 at e0 e1 e2 h1 h2 e_Ol e_P e_Pl e_Px e_Pj e_Pn e_im e_mm e_z e_mle hP hF h3 h4 h13 e_a1 e_a2 e_a3 e_a4 e_a5 e_a6 e_a7 e_2l e_2j e_2n e_2m h5 h6 h7 h8 h9 h10 hC hr e_b00 e_b01 e_b02 e_b03 e_b10 e_b11 e_b12 e_b13 e_b20 e_b21 e_b22 e_b23 e_b30 e_b31 e_b32 e_b33 ⊢
    rw [lp_split (lpOf (envV A) 7 bd7) 16]
    generalize lpOf (envV A) 7 bd7 16 = L16 at e0 e1 e2 h1 h2 e_Ol e_P e_Pl e_Px e_Pj e_Pn e_im e_mm e_z e_mle hP hF h3 h4 h13 e_a1 e_a2 e_a3 e_a4 e_a5 e_a6 e_a7 e_2l e_2j e_2n e_2m h5 h6 h7 h8 h9 h10 hC hr e_b00 e_b01 e_b02 e_b03 e_b10 e_b11 e_b12 e_b13 e_b20 e_b21 e_b22 e_b23 e_b30 e_b31 e_b32 e_b33 ⊢
    rw [lp_split (lpOf (envV A) 7 bd7) 54]
    generalize lpOf (envV A) 7 bd7 54 = L54 at e0 e1 e2 h1 h2 e_Ol e_P e_Pl e_Px e_Pj e_Pn e_im e_mm e_z e_mle hP hF h3 h4 h13 e_a1 e_a2 e_a3 e_a4 e_a5 e_a6 e_a7 e_2l e_2j e_2n e_2m h5 h6 h7 h8 h9 h10 hC hr e_b00 e_b01 e_b02 e_b03 e_b10 e_b11 e_b12 e_b13 e_b20 e_b21 e_b22 e_b23 e_b30 e_b31 e_b32 e_b33 ⊢
    generalize lpOf (envV A) 7 bd7 = LP
    generalize evl (envV A) = E at e0 e1 e2 h1 h2 e_Ol e_P e_Pl e_Px e_Pj e_Pn e_im e_mm e_z e_mle hP hF h3 h4 h13 e_a1 e_a2 e_a3 e_a4 e_a5 e_a6 e_a7 e_2l e_2j e_2n e_2m h5 h6 h7 h8 h9 h10 hC hr e_b00 e_b01 e_b02 e_b03 e_b10 e_b11 e_b12 e_b13 e_b20 e_b21 e_b22 e_b23 e_b30 e_b31 e_b32 e_b33 ⊢
    obtain ⟨aadd, asub, amul, arem, aquo, awr, ashr, aeq, alt, ale, aseq, aslt, acat, acut, asiz, aat, anle, aneq, afit⟩ := A
    simp only at hnle hneq
    subst hnle hneq
    simp only at klt kle keq knle kneq
    try simp only at h1 h2 hP hF h3 h4 h13 h5 h6 h7 h8 h9 h10 hC hr
    conv at e0 => lhs; cbv
    conv at e1 => lhs; cbv
    conv at e2 => lhs; cbv
    conv at e_Ol => lhs; cbv
    conv at e_P => lhs; cbv
    conv at e_Pl => lhs; cbv
    conv at e_Px => lhs; cbv
    conv at e_Pj => lhs; cbv
    conv at e_Pn => lhs; cbv
    conv at e_im => lhs; cbv
    conv at e_mm => lhs; cbv
    conv at e_z => lhs; cbv
    conv at e_mle => lhs; cbv
    conv at e_a1 => lhs; cbv
    conv at e_a2 => lhs; cbv
    conv at e_a3 => lhs; cbv
    conv at e_a4 => lhs; cbv
    conv at e_a5 => lhs; cbv
    conv at e_a6 => lhs; cbv
    conv at e_a7 => lhs; cbv
    conv at e_2l => lhs; cbv
    conv at e_2j => lhs; cbv
    conv at e_2n => lhs; cbv
    conv at e_2m => lhs; cbv
    conv at e_b00 => lhs; cbv
    conv at e_b01 => lhs; cbv
    conv at e_b02 => lhs; cbv
    conv at e_b03 => lhs; cbv
    conv at e_b10 => lhs; cbv
    conv at e_b11 => lhs; cbv
    conv at e_b12 => lhs; cbv
    conv at e_b13 => lhs; cbv
    conv at e_b20 => lhs; cbv
    conv at e_b21 => lhs; cbv
    conv at e_b22 => lhs; cbv
    conv at e_b23 => lhs; cbv
    conv at e_b30 => lhs; cbv
    conv at e_b31 => lhs; cbv
    conv at e_b32 => lhs; cbv
    conv at e_b33 => lhs; cbv
    cbv
    rewrite [e0]
    cbv
    rewrite [e_Ol]
    cbv
    rewrite [h1]
    cbv
    rewrite [e1]
    cbv
    rewrite [e_Ol]
    cbv
    rewrite [e_b00]
    cbv
    conv in (L16 _) => arg 1; cbv
    cbv
    rewrite [e_b00]
    cbv
    rewrite [e_Ol]
    cbv
    rewrite [e_P]
    cbv
    rewrite [e_Pl]
    cbv
    conv in (L16 _) => arg 1; cbv
    cbv
    rewrite [e_Pl]
    cbv
    rewrite [e_b00]
    cbv
    rewrite [e_Ol]
    cbv
    rewrite [e_b01]
    cbv
    rewrite [e_b10]
    cbv
    conv in (L16 _) => arg 1; cbv
    cbv
    rewrite [e_b00]
    cbv
    conv in (L16 _) => arg 1; cbv
    cbv
    rewrite [e_b00]
    cbv
    rewrite [e_Pl]
    cbv
    conv in (L16 _) => arg 1; cbv
    cbv
    rewrite [e_Pl]
    cbv
    rewrite [e_b00]
    cbv
    rewrite [e_Ol]
    cbv
    rewrite [e_b01]
    cbv
    rewrite [e_b10]
    cbv
    conv in (L16 _) => arg 1; cbv
    cbv
    rewrite [e_b00]
    cbv
    conv in (L16 _) => arg 1; cbv
    cbv
    rewrite [e_b00]
    cbv
    rewrite [e_Pl]
    cbv
    conv in (L16 _) => arg 1; cbv
    cbv
    rewrite [e_Pl]
    cbv
    rewrite [e_b00]
    cbv
    rewrite [e_Ol]
    cbv
    rewrite [e_b01]
    cbv
    rewrite [e_b10]
    cbv
    conv in (L16 _) => arg 1; cbv
    cbv
    rewrite [e_b00]
    cbv
    conv in (L16 _) => arg 1; cbv
    cbv
    rewrite [e_b00]
    cbv
    rewrite [hF]
    cbv
    rewrite [e_Px]
    cbv
    rewrite [hP]
    cbv
    rewrite [e_Pn]
    cbv
    rewrite [e_Pl]
    cbv
    rewrite [keq (2) (0)]
    cbv
    rewrite [e_Pl]
    cbv
    rewrite [e_b00]
    cbv
    rewrite [e_b01]
    cbv
    rewrite [e_b10]
    cbv
    rewrite [keq (2) (1)]
    cbv
    rewrite [e_b00]
    cbv
    rewrite [e_Pl]
    cbv
    rewrite [keq (2) (2)]
    cbv
    rewrite [e_Pl]
    cbv
    rewrite [e_b00]
    cbv
    rewrite [e_b01]
    cbv
    rewrite [e_b10]
    cbv
    rewrite [e_Pl]
    cbv
    rewrite [e_Pl]
    cbv
    rewrite [e_b00]
    cbv
    rewrite [e_b01]
    cbv
    rewrite [e_b10]
    cbv
    rewrite [e_Pl]
    cbv
    rewrite [e_Pl]
    cbv
    rewrite [e_b00]
    cbv
    rewrite [e_b01]
    cbv
    rewrite [e_b10]
    cbv
    rewrite [e_Px]
    cbv
    rewrite [e_b00]
    cbv
    rewrite [e_Pl]
    cbv
    rewrite [e_Pl]
    cbv
    rewrite [e_b00]
    cbv
    rewrite [e_b01]
    cbv
    rewrite [e_b10]
    cbv
    rewrite [e_Pl]
    cbv
    rewrite [e_Pl]
    cbv
    rewrite [e_b00]
    cbv
    rewrite [e_b01]
    cbv
    rewrite [e_b10]
    cbv
    rewrite [e_Pj]
    cbv
    rewrite [e_Pl]
    cbv
    rewrite [e_b00]
    cbv
    rewrite [e_b01]
    cbv
    rewrite [e_b10]
    cbv
    rewrite [e_Pl]
    cbv
    rewrite [e_Pl]
    cbv
    rewrite [e_b00]
    cbv
    rewrite [e_b01]
    cbv
    rewrite [e_b10]
    cbv
    rewrite [e_Pj]
    cbv
    rewrite [e_Pl]
    cbv
    rewrite [e_b00]
    cbv
    rewrite [e_b01]
    cbv
    rewrite [e_b10]
    cbv
    rewrite [h3]
    cbv
    rewrite [e_im]
    cbv
    rewrite [e_b00]
    cbv
    rewrite [e_Pl]
    cbv
    rewrite [h4]
    cbv
    rewrite [e_Pl]
    cbv
    rewrite [e_b00]
    cbv
    rewrite [e_b01]
    cbv
    rewrite [e_b10]
    cbv
    rewrite [h13]
    cbv
    rewrite [e_b00]
    cbv
    rewrite [e_a1]
    cbv
    rewrite [e_a2]
    cbv
    rewrite [e_a3]
    cbv
    rewrite [keq (6) (6)]
    cbv
    rewrite [e_a3]
    cbv
    rewrite [e_a6]
    cbv
    rewrite [e_a7]
    cbv
    rewrite [e_2l]
    cbv
    rewrite [e_b00]
    cbv
    rewrite [e_b01]
    cbv
    rewrite [e_b10]
    cbv
    rewrite [keq (0) (0)]
    cbv
    rewrite [e_b00]
    cbv
    rewrite [e_a3]
    cbv
    rewrite [e_a3]
    cbv
    rewrite [e_a6]
    cbv
    rewrite [e_a7]
    cbv
    rewrite [e_2l]
    cbv
    rewrite [e_b00]
    cbv
    rewrite [e_b01]
    cbv
    rewrite [e_b10]
    cbv
    rewrite [e_a2]
    cbv
    rewrite [e_a3]
    cbv
    rewrite [e_a3]
    cbv
    rewrite [e_a6]
    cbv
    rewrite [e_a7]
    cbv
    rewrite [e_2l]
    cbv
    rewrite [e_b00]
    cbv
    rewrite [e_b10]
    cbv
    rewrite [e_b00]
    cbv
    rewrite [e_2j]
    cbv
    rewrite [e_a3]
    cbv
    rewrite [e_a6]
    cbv
    rewrite [e_a7]
    cbv
    rewrite [e_2l]
    cbv
    rewrite [e_b00]
    cbv
    rewrite [e_b01]
    cbv
    rewrite [e_b10]
    cbv
    rewrite [h5]
    cbv
    rewrite [e_im]
    cbv
    rewrite [e_b00]
    cbv
    rewrite [e_a2]
    cbv
    rewrite [e_a3]
    cbv
    rewrite [h8]
    cbv
    rewrite [e_a3]
    cbv
    rewrite [e_a6]
    cbv
    rewrite [e_a7]
    cbv
    rewrite [e_2l]
    cbv
    rewrite [e_b00]
    cbv
    rewrite [e_b10]
    cbv
    rewrite [e_b00]
    cbv
    rewrite [e_2n]
    cbv
    rewrite [e_2j]
    cbv
    rewrite [e_b00]
    cbv
    rewrite [h6]
    cbv
    rewrite [e_b00]
    cbv
    rewrite [e_2n]
    cbv
    rewrite [e_2n]
    cbv
    rewrite [h9]
    cbv
    rewrite [e_2j]
    cbv
    rewrite [h7]
    cbv
    rewrite [e_2n]
    cbv
    rewrite [e_2l]
    cbv
    rewrite [h10]
    cbv
    rewrite [e_2l]
    cbv
    rewrite [e_b00]
    cbv
    conv in (L54 _) => arg 1; cbv
    cbv
    rewrite [e_b00]
    cbv
    rewrite [e_2l]
    cbv
    conv in (L54 _) => arg 1; cbv
    cbv
    rewrite [e_2l]
    cbv
    rewrite [e_b00]
    cbv
    conv in (L54 _) => arg 1; cbv
    cbv
    rewrite [e_b00]
    cbv
    rewrite [hC]
    cbv
    rewrite [e_2l]
    cbv
    rewrite [h2]
    cbv
    conv in (L11 _) => arg 1; cbv
    cbv
    rewrite [e_2l]
    cbv
    rewrite [e_b00]
    cbv
    conv in (L11 _) => arg 1; cbv
    cbv
    rewrite [e_b00]
    cbv
    rewrite [hr]
    cbv
  ·
    rw [lp_step (envV A) 7 (c0 := bd7) (lv := lvF7) rfl rfl]
    have hnle := hA.nleE; have hneq := hA.neqE
    have klt := hA.lt; have kle := hA.le; have keq := hA.eq; have knle := hA.nle; have kneq := hA.neq
    rw [lp_split (lpOf (envV A) 7 bd7) 11]
    generalize lpOf (envV A) 7 bd7 11 = L11 at e0 e1 e2 h1 h2 e_Ol e_P e_Pl e_Px e_Pj e_Pn e_im e_mm e_z e_mle hP hF h3 h4 h13 e_a1 e_a2 e_a3 e_a4 e_a5 e_a6 e_a7 e_2l e_2j e_2n e_2m h5 h6 h7 h8 h9 h10 hC hr e_b00 e_b01 e_b02 e_b03 e_b10 e_b11 e_b12 e_b13 e_b20 e_b21 e_b22 e_b23 e_b30 e_b31 e_b32 e_b33 ⊢
    rw [lp_split (lpOf (envV A) 7 bd7) 16]
    generalize lpOf (envV A) 7 bd7 16 = L16 at e0 e1 e2 h1 h2 e_Ol e_P e_Pl e_Px e_Pj e_Pn e_im e_mm e_z e_mle hP hF h3 h4 h13 e_a1 e_a2 e_a3 e_a4 e_a5 e_a6 e_a7 e_2l e_2j e_2n e_2m h5 h6 h7 h8 h9 h10 hC hr e_b00 e_b01 e_b02 e_b03 e_b10 e_b11 e_b12 e_b13 e_b20 e_b21 e_b22 e_b23 e_b30 e_b31 e_b32 e_b33 ⊢
    rw [lp_split (lpOf (envV A) 7 bd7) 54]
    generalize lpOf (envV A) 7 bd7 54 = L54 at e0 e1 e2 h1 h2 e_Ol e_P e_Pl e_Px e_Pj e_Pn e_im e_mm e_z e_mle hP hF h3 h4 h13 e_a1 e_a2 e_a3 e_a4 e_a5 e_a6 e_a7 e_2l e_2j e_2n e_2m h5 h6 h7 h8 h9 h10 hC hr e_b00 e_b01 e_b02 e_b03 e_b10 e_b11 e_b12 e_b13 e_b20 e_b21 e_b22 e_b23 e_b30 e_b31 e_b32 e_b33 ⊢
    generalize lpOf (envV A) 7 bd7 = LP
    generalize evl (envV A) = E at e0 e1 e2 h1 h2 e_Ol e_P e_Pl e_Px e_Pj e_Pn e_im e_mm e_z e_mle hP hF h3 h4 h13 e_a1 e_a2 e_a3 e_a4 e_a5 e_a6 e_a7 e_2l e_2j e_2n e_2m h5 h6 h7 h8 h9 h10 hC hr e_b00 e_b01 e_b02 e_b03 e_b10 e_b11 e_b12 e_b13 e_b20 e_b21 e_b22 e_b23 e_b30 e_b31 e_b32 e_b33 ⊢
    obtain ⟨aadd, asub, amul, arem, aquo, awr, ashr, aeq, alt, ale, aseq, aslt, acat, acut, asiz, aat, anle, aneq, afit⟩ := A
    simp only at hnle hneq
    subst hnle hneq
    simp only at klt kle keq knle kneq
    try simp only at h1 h2 hP hF h3 h4 h13 h5 h6 h7 h8 h9 h10 hC hr
    conv at e0 => lhs; cbv
    conv at e1 => lhs; cbv
    conv at e2 => lhs; cbv
    conv at e_Ol => lhs; cbv
    conv at e_P => lhs; cbv
    conv at e_Pl => lhs; cbv
    conv at e_Px => lhs; cbv
    conv at e_Pj => lhs; cbv
    conv at e_Pn => lhs; cbv
    conv at e_im => lhs; cbv
    conv at e_mm => lhs; cbv
    conv at e_z => lhs; cbv
    conv at e_mle => lhs; cbv
    conv at e_a1 => lhs; cbv
    conv at e_a2 => lhs; cbv
    conv at e_a3 => lhs; cbv
    conv at e_a4 => lhs; cbv
    conv at e_a5 => lhs; cbv
    conv at e_a6 => lhs; cbv
    conv at e_a7 => lhs; cbv
    conv at e_2l => lhs; cbv
    conv at e_2j => lhs; cbv
    conv at e_2n => lhs; cbv
    conv at e_2m => lhs; cbv
    conv at e_b00 => lhs; cbv
    conv at e_b01 => lhs; cbv
    conv at e_b02 => lhs; cbv
    conv at e_b03 => lhs; cbv
    conv at e_b10 => lhs; cbv
    conv at e_b11 => lhs; cbv
    conv at e_b12 => lhs; cbv
    conv at e_b13 => lhs; cbv
    conv at e_b20 => lhs; cbv
    conv at e_b21 => lhs; cbv
    conv at e_b22 => lhs; cbv
    conv at e_b23 => lhs; cbv
    conv at e_b30 => lhs; cbv
    conv at e_b31 => lhs; cbv
    conv at e_b32 => lhs; cbv
    conv at e_b33 => lhs; cbv
    cbv
    rewrite [e0]
    cbv
    rewrite [e_Ol]
    cbv
    rewrite [h1]
    cbv
    rewrite [e1]
    cbv
    rewrite [e_Ol]
    cbv
    rewrite [e_b00]
    cbv
    conv in (L16 _) => arg 1; cbv
    cbv
    rewrite [e_b00]
    cbv
    rewrite [e_Ol]
    cbv
    rewrite [e_P]
    cbv
    rewrite [e_Pl]
    cbv
    conv in (L16 _) => arg 1; cbv
    cbv
    rewrite [e_Pl]
    cbv
    rewrite [e_b00]
    cbv
    rewrite [e_Ol]
    cbv
    rewrite [e_b01]
    cbv
    rewrite [e_b10]
    cbv
    conv in (L16 _) => arg 1; cbv
    cbv
    rewrite [e_b00]
    cbv
    conv in (L16 _) => arg 1; cbv
    cbv
    rewrite [e_b00]
    cbv
    rewrite [e_Pl]
    cbv
    conv in (L16 _) => arg 1; cbv
    cbv
    rewrite [e_Pl]
    cbv
    rewrite [e_b00]
    cbv
    rewrite [e_Ol]
    cbv
    rewrite [e_b01]
    cbv
    rewrite [e_b10]
    cbv
    conv in (L16 _) => arg 1; cbv
    cbv
    rewrite [e_b00]
    cbv
    conv in (L16 _) => arg 1; cbv
    cbv
    rewrite [e_b00]
    cbv
    rewrite [e_Pl]
    cbv
    conv in (L16 _) => arg 1; cbv
    cbv
    rewrite [e_Pl]
    cbv
    rewrite [e_b00]
    cbv
    rewrite [e_Ol]
    cbv
    rewrite [e_b01]
    cbv
    rewrite [e_b10]
    cbv
    conv in (L16 _) => arg 1; cbv
    cbv
    rewrite [e_b00]
    cbv
    conv in (L16 _) => arg 1; cbv
    cbv
    rewrite [e_b00]
    cbv
    rewrite [hF]
    cbv
    rewrite [e_Px]
    cbv
    rewrite [hP]
    cbv
    rewrite [e_Pn]
    cbv
    rewrite [e_Pl]
    cbv
    rewrite [keq (3) (0)]
    cbv
    rewrite [e_Pl]
    cbv
    rewrite [e_b00]
    cbv
    rewrite [e_b01]
    cbv
    rewrite [e_b10]
    cbv
    rewrite [keq (3) (1)]
    cbv
    rewrite [e_b00]
    cbv
    rewrite [e_Pl]
    cbv
    rewrite [keq (3) (2)]
    cbv
    rewrite [e_Pl]
    cbv
    rewrite [e_b00]
    cbv
    rewrite [e_b01]
    cbv
    rewrite [e_b10]
    cbv
    rewrite [keq (3) (3)]
    cbv
    rewrite [e_b00]
    cbv
    rewrite [e_Pl]
    cbv
    rewrite [e_Pl]
    cbv
    rewrite [e_b00]
    cbv
    rewrite [e_b01]
    cbv
    rewrite [e_b10]
    cbv
    rewrite [e_Pl]
    cbv
    rewrite [e_Pl]
    cbv
    rewrite [e_b00]
    cbv
    rewrite [e_b01]
    cbv
    rewrite [e_b10]
    cbv
    rewrite [e_Pl]
    cbv
    rewrite [e_Pl]
    cbv
    rewrite [e_b00]
    cbv
    rewrite [e_b01]
    cbv
    rewrite [e_b10]
    cbv
    rewrite [e_Px]
    cbv
    rewrite [e_Pl]
    cbv
    rewrite [e_b00]
    cbv
    rewrite [e_b01]
    cbv
    rewrite [e_b10]
    cbv
    rewrite [e_Pl]
    cbv
    rewrite [e_Pl]
    cbv
    rewrite [e_b00]
    cbv
    rewrite [e_b01]
    cbv
    rewrite [e_b10]
    cbv
    rewrite [e_Pl]
    cbv
    rewrite [e_Pl]
    cbv
    rewrite [e_b00]
    cbv
    rewrite [e_b01]
    cbv
    rewrite [e_b10]
    cbv
    rewrite [e_Pj]
    cbv
    rewrite [e_b00]
    cbv
    rewrite [e_Pl]
    cbv
    rewrite [e_Pl]
    cbv
    rewrite [e_b00]
    cbv
    rewrite [e_b01]
    cbv
    rewrite [e_b10]
    cbv
    rewrite [e_Pl]
    cbv
    rewrite [e_Pl]
    cbv
    rewrite [e_b00]
    cbv
    rewrite [e_b01]
    cbv
    rewrite [e_b10]
    cbv
    rewrite [e_Pj]
    cbv
    rewrite [e_b00]
    cbv
    rewrite [e_Pl]
    cbv
    rewrite [h3]
    cbv
    rewrite [e_Pl]
    cbv
    rewrite [e_im]
    cbv
    rewrite [e_b00]
    cbv
    rewrite [e_b01]
    cbv
    rewrite [e_b10]
    cbv
    rewrite [h4]
    cbv
    rewrite [e_b00]
    cbv
    rewrite [e_Pl]
    cbv
    rewrite [h13]
    cbv
    rewrite [e_Pl]
    cbv
    rewrite [e_b00]
    cbv
    rewrite [e_b01]
    cbv
    rewrite [e_b10]
    cbv
    rewrite [keq (6) (6)]
    cbv
    rewrite [e_b00]
    cbv
    rewrite [e_a1]
    cbv
    rewrite [e_a2]
    cbv
    rewrite [e_a3]
    cbv
    rewrite [keq (0) (0)]
    cbv
    rewrite [e_a3]
    cbv
    rewrite [e_a6]
    cbv
    rewrite [e_a7]
    cbv
    rewrite [e_2l]
    cbv
    rewrite [e_b00]
    cbv
    rewrite [e_b01]
    cbv
    rewrite [e_b10]
    cbv
    rewrite [e_a3]
    cbv
    rewrite [e_a3]
    cbv
    rewrite [e_a6]
    cbv
    rewrite [e_a7]
    cbv
    rewrite [e_2l]
    cbv
    rewrite [e_b00]
    cbv
    rewrite [e_b01]
    cbv
    rewrite [e_b10]
    cbv
    rewrite [e_a2]
    cbv
    rewrite [e_a3]
    cbv
    rewrite [e_a3]
    cbv
    rewrite [e_a6]
    cbv
    rewrite [e_a7]
    cbv
    rewrite [e_2l]
    cbv
    rewrite [e_b00]
    cbv
    rewrite [e_b10]
    cbv
    rewrite [e_b00]
    cbv
    rewrite [e_2j]
    cbv
    rewrite [e_b00]
    cbv
    rewrite [e_a3]
    cbv
    rewrite [h5]
    cbv
    rewrite [e_im]
    cbv
    rewrite [e_a3]
    cbv
    rewrite [e_a6]
    cbv
    rewrite [e_a7]
    cbv
    rewrite [e_2l]
    cbv
    rewrite [e_b00]
    cbv
    rewrite [e_b01]
    cbv
    rewrite [e_b10]
    cbv
    rewrite [h8]
    cbv
    rewrite [e_b00]
    cbv
    rewrite [e_a2]
    cbv
    rewrite [e_a3]
    cbv
    rewrite [e_a3]
    cbv
    rewrite [e_a6]
    cbv
    rewrite [e_a7]
    cbv
    rewrite [e_2l]
    cbv
    rewrite [e_b00]
    cbv
    rewrite [e_b10]
    cbv
    rewrite [e_b00]
    cbv
    rewrite [e_2n]
    cbv
    rewrite [e_2j]
    cbv
    rewrite [e_a3]
    cbv
    rewrite [e_a6]
    cbv
    rewrite [e_a7]
    cbv
    rewrite [e_2l]
    cbv
    rewrite [e_b00]
    cbv
    rewrite [e_b10]
    cbv
    rewrite [h6]
    cbv
    rewrite [e_b00]
    cbv
    rewrite [h9]
    cbv
    rewrite [e_b00]
    cbv
    rewrite [e_2n]
    cbv
    rewrite [e_2n]
    cbv
    rewrite [e_2j]
    cbv
    rewrite [h7]
    cbv
    rewrite [e_2n]
    cbv
    rewrite [e_2l]
    cbv
    rewrite [h10]
    cbv
    rewrite [e_2l]
    cbv
    rewrite [e_b00]
    cbv
    conv in (L54 _) => arg 1; cbv
    cbv
    rewrite [e_b00]
    cbv
    rewrite [e_2l]
    cbv
    conv in (L54 _) => arg 1; cbv
    cbv
    rewrite [e_2l]
    cbv
    rewrite [e_b00]
    cbv
    conv in (L54 _) => arg 1; cbv
    cbv
    rewrite [e_b00]
    cbv
    rewrite [hC]
    cbv
    rewrite [e_2l]
    cbv
    rewrite [h2]
    cbv
    conv in (L11 _) => arg 1; cbv
    cbv
    rewrite [e_2l]
    cbv
    rewrite [e_b00]
    cbv
    conv in (L11 _) => arg 1; cbv
    cbv
    rewrite [e_b00]
    cbv
    rewrite [hr]
    cbv
end
end ArInt
end Go.Va
namespace Go.Va
open Go.Proofs
set_option maxRecDepth 100000
set_option maxHeartbeats 40000000
namespace ArInt
section
variable (A : Ar) (hA : ArOk A) (ss fs ss2 fs2 ds is ms is2 ms2 ia ib ma mb : List AV) (n m m2 i j k p : Nat) (room last l2 id d rl nx nx2 at_ w x y q : Int) (O P P2 O2 Q Q2 : Seg)
include hA
theorem lp_ap_setN {r : Option Res} (e0 : ds.length = n) (e1 : lget ds i = some (.agg [.s (.int .i64 w), .s (.int .i64 d), .s (.int .i64 x)])) (e2 : Nat.ble (Nat.succ i) n = true) (h1 : A.lt (.ofNat i) (.ofNat n) = true) (h2 : A.add .i64 (.ofNat i) 1 = .ofNat (Nat.succ i)) (e_Ol : O.length = Nat.succ j) (e_P : O ++ [[.s (.int .i64 w), .s (.int .i64 d), .s (.int .i64 x)]] = P) (e_Pl : P.length = Nat.succ (Nat.succ j)) (e_Px : lget P (Nat.succ j) = some [.s (.int .i64 w), .s (.int .i64 d), .s (.int .i64 x)]) (e_Pj : lget P j = some [.sl 2 ss .full, .sl 1 fs .full, .s (.int .i64 room), .s (.int .i64 rl)]) (e_Pn : P ++ [] = P) (e_im : is.length = m) (e_mm : ms.length = m) (e_z : 0 + m = m) (e_mle : Nat.ble m m = true) (hP : evl (envV A) (.call 35 [.s (.int .i64 w), .s (.int .i64 8)] []) = some (.ret (.s (.int .i64 q)) [])) (hF : lpOf (envV A) 7 bd7 16 (stF room ds is ms nx P j i (-1) 0) = some (.code (.exit 2) (stFe room ds is ms nx P j i (-1) m))) (h13 : A.le 0 (-1) = false) (h3 : evl (envV A) (.call 39 [.ptr 0 0, .s (.int .i64 d), .s (.int .i64 x)] [arO ss fs room rl]) = some (.ret (.s (.bool false)) [arO ss fs room rl])) (e_a1 : lset P j [.sl 2 ss .full, .sl 1 fs .full, .s (.int .i64 room), .s (.int .i64 rl)] = P2) (e_a2 : P2 ++ [] = P2) (e_a3 : P2.length = Nat.succ (Nat.succ j)) (e_a4 : lget P2 (Nat.succ j) = some [.s (.int .i64 w), .s (.int .i64 d), .s (.int .i64 x)]) (e_a5 : lget P2 j = some [.sl 2 ss .full, .sl 1 fs .full, .s (.int .i64 room), .s (.int .i64 rl)]) (e_a6 : P2.dropLast = O2) (e_a7 : refSeg (Nat.succ j) O2 = false) (e_2l : O2.length = Nat.succ (j)) (e_2j : lget O2 (j) = some [.sl 2 ss .full, .sl 1 fs .full, .s (.int .i64 room), .s (.int .i64 rl)]) (e_2n : O2 ++ [] = O2) (e_2m : is.length = m) (h5 : evl (envV A) (.call 41 [arV ss fs room rl] []) = some (.ret (.s (.int .i64 (.ofNat m))) [])) (h6 : evl (envV A) (.call 42 [arV ss fs room rl] []) = some (.ret (.s (.int .i64 nx)) [])) (h7 : evl (envV A) (.call 43 [arV ss fs room rl] []) = some (.ret (.s (.int .i64 room)) [])) (h8 : A.eq (.ofNat m) (.ofNat m) = true) (h9 : A.eq nx nx = true) (h10 : A.eq room room = true) (hC : lpOf (envV A) 7 bd7 54 (stC room ds is ms nx O2 (j) i 0) = some (.code (.exit 5) (stCe room ds is ms nx O2 (j) i m))) (hr : lpOf (envV A) 7 bd7 11 (stL room ds is ms nx O2 (j) (Nat.succ i)) = r) (e_b00 : Nat.beq (j) (j) = true) (e_b01 : Nat.beq (j) (Nat.succ j) = false) (e_b02 : Nat.beq (j) (Nat.succ (Nat.succ j)) = false) (e_b03 : Nat.beq (j) (Nat.succ (Nat.succ (Nat.succ j))) = false) (e_b10 : Nat.beq (Nat.succ j) (j) = false) (e_b11 : Nat.beq (Nat.succ j) (Nat.succ j) = true) (e_b12 : Nat.beq (Nat.succ j) (Nat.succ (Nat.succ j)) = false) (e_b13 : Nat.beq (Nat.succ j) (Nat.succ (Nat.succ (Nat.succ j))) = false) (e_b20 : Nat.beq (Nat.succ (Nat.succ j)) (j) = false) (e_b21 : Nat.beq (Nat.succ (Nat.succ j)) (Nat.succ j) = false) (e_b22 : Nat.beq (Nat.succ (Nat.succ j)) (Nat.succ (Nat.succ j)) = true) (e_b23 : Nat.beq (Nat.succ (Nat.succ j)) (Nat.succ (Nat.succ (Nat.succ j))) = false) (e_b30 : Nat.beq (Nat.succ (Nat.succ (Nat.succ j))) (j) = false) (e_b31 : Nat.beq (Nat.succ (Nat.succ (Nat.succ j))) (Nat.succ j) = false) (e_b32 : Nat.beq (Nat.succ (Nat.succ (Nat.succ j))) (Nat.succ (Nat.succ j)) = false) (e_b33 : Nat.beq (Nat.succ (Nat.succ (Nat.succ j))) (Nat.succ (Nat.succ (Nat.succ j))) = true) (hq : q = 6) :
    lpOf (envV A) 7 bd7 11 (stL room ds is ms nx O j i) = r := by
  unfold stF stFe at hF; unfold stC stCe at hC; unfold stL at hr ⊢; unfold arO at *; unfold arV at *
  simp only [show Int.ofNat 0 = 0 from rfl] at hF hC
  subst hq
  rw [lp_step (envV A) 7 (c0 := bd7) (lv := lvF7) rfl rfl]
  have hnle := hA.nleE; have hneq := hA.neqE
  have klt := hA.lt; have kle := hA.le; have keq := hA.eq; have knle := hA.nle; have kneq := hA.neq
  rw [lp_split (lpOf (envV A) 7 bd7) 11]
  generalize lpOf (envV A) 7 bd7 11 = L11 at e0 e1 e2 h1 h2 e_Ol e_P e_Pl e_Px e_Pj e_Pn e_im e_mm e_z e_mle hP hF h13 h3 e_a1 e_a2 e_a3 e_a4 e_a5 e_a6 e_a7 e_2l e_2j e_2n e_2m h5 h6 h7 h8 h9 h10 hC hr e_b00 e_b01 e_b02 e_b03 e_b10 e_b11 e_b12 e_b13 e_b20 e_b21 e_b22 e_b23 e_b30 e_b31 e_b32 e_b33 ⊢
  rw [lp_split (lpOf (envV A) 7 bd7) 16]
  generalize lpOf (envV A) 7 bd7 16 = L16 at e0 e1 e2 h1 h2 e_Ol e_P e_Pl e_Px e_Pj e_Pn e_im e_mm e_z e_mle hP hF h13 h3 e_a1 e_a2 e_a3 e_a4 e_a5 e_a6 e_a7 e_2l e_2j e_2n e_2m h5 h6 h7 h8 h9 h10 hC hr e_b00 e_b01 e_b02 e_b03 e_b10 e_b11 e_b12 e_b13 e_b20 e_b21 e_b22 e_b23 e_b30 e_b31 e_b32 e_b33 ⊢
  rw [lp_split (lpOf (envV A) 7 bd7) 54]
  generalize lpOf (envV A) 7 bd7 54 = L54 at e0 e1 e2 h1 h2 e_Ol e_P e_Pl e_Px e_Pj e_Pn e_im e_mm e_z e_mle hP hF h13 h3 e_a1 e_a2 e_a3 e_a4 e_a5 e_a6 e_a7 e_2l e_2j e_2n e_2m h5 h6 h7 h8 h9 h10 hC hr e_b00 e_b01 e_b02 e_b03 e_b10 e_b11 e_b12 e_b13 e_b20 e_b21 e_b22 e_b23 e_b30 e_b31 e_b32 e_b33 ⊢
  generalize lpOf (envV A) 7 bd7 = LP
  generalize evl (envV A) = E at e0 e1 e2 h1 h2 e_Ol e_P e_Pl e_Px e_Pj e_Pn e_im e_mm e_z e_mle hP hF h13 h3 e_a1 e_a2 e_a3 e_a4 e_a5 e_a6 e_a7 e_2l e_2j e_2n e_2m h5 h6 h7 h8 h9 h10 hC hr e_b00 e_b01 e_b02 e_b03 e_b10 e_b11 e_b12 e_b13 e_b20 e_b21 e_b22 e_b23 e_b30 e_b31 e_b32 e_b33 ⊢
  obtain ⟨aadd, asub, amul, arem, aquo, awr, ashr, aeq, alt, ale, aseq, aslt, acat, acut, asiz, aat, anle, aneq, afit⟩ := A
  simp only at hnle hneq
  subst hnle hneq
  simp only at klt kle keq knle kneq
  try simp only at h1 h2 hP hF h13 h3 h5 h6 h7 h8 h9 h10 hC hr
  conv at e0 => lhs; cbv
  conv at e1 => lhs; cbv
  conv at e2 => lhs; cbv
  conv at e_Ol => lhs; cbv
  conv at e_P => lhs; cbv
  conv at e_Pl => lhs; cbv
  conv at e_Px => lhs; cbv
  conv at e_Pj => lhs; cbv
  conv at e_Pn => lhs; cbv
  conv at e_im => lhs; cbv
  conv at e_mm => lhs; cbv
  conv at e_z => lhs; cbv
  conv at e_mle => lhs; cbv
  conv at e_a1 => lhs; cbv
  conv at e_a2 => lhs; cbv
  conv at e_a3 => lhs; cbv
  conv at e_a4 => lhs; cbv
  conv at e_a5 => lhs; cbv
  conv at e_a6 => lhs; cbv
  conv at e_a7 => lhs; cbv
  conv at e_2l => lhs; cbv
  conv at e_2j => lhs; cbv
  conv at e_2n => lhs; cbv
  conv at e_2m => lhs; cbv
  conv at e_b00 => lhs; cbv
  conv at e_b01 => lhs; cbv
  conv at e_b02 => lhs; cbv
  conv at e_b03 => lhs; cbv
  conv at e_b10 => lhs; cbv
  conv at e_b11 => lhs; cbv
  conv at e_b12 => lhs; cbv
  conv at e_b13 => lhs; cbv
  conv at e_b20 => lhs; cbv
  conv at e_b21 => lhs; cbv
  conv at e_b22 => lhs; cbv
  conv at e_b23 => lhs; cbv
  conv at e_b30 => lhs; cbv
  conv at e_b31 => lhs; cbv
  conv at e_b32 => lhs; cbv
  conv at e_b33 => lhs; cbv
  cbv
  rewrite [e0]
  cbv
  rewrite [e_Ol]
  cbv
  rewrite [h1]
  cbv
  rewrite [e1]
  cbv
  rewrite [e_Ol]
  cbv
  rewrite [e_b00]
  cbv
  conv in (L16 _) => arg 1; cbv
  cbv
  rewrite [e_b00]
  cbv
  rewrite [e_Ol]
  cbv
  rewrite [e_P]
  cbv
  rewrite [e_Pl]
  cbv
  conv in (L16 _) => arg 1; cbv
  cbv
  rewrite [e_Pl]
  cbv
  rewrite [e_b00]
  cbv
  rewrite [e_Ol]
  cbv
  rewrite [e_b01]
  cbv
  rewrite [e_b10]
  cbv
  conv in (L16 _) => arg 1; cbv
  cbv
  rewrite [e_b00]
  cbv
  conv in (L16 _) => arg 1; cbv
  cbv
  rewrite [e_b00]
  cbv
  rewrite [e_Pl]
  cbv
  conv in (L16 _) => arg 1; cbv
  cbv
  rewrite [e_Pl]
  cbv
  rewrite [e_b00]
  cbv
  rewrite [e_Ol]
  cbv
  rewrite [e_b01]
  cbv
  rewrite [e_b10]
  cbv
  conv in (L16 _) => arg 1; cbv
  cbv
  rewrite [e_b00]
  cbv
  conv in (L16 _) => arg 1; cbv
  cbv
  rewrite [e_b00]
  cbv
  rewrite [e_Pl]
  cbv
  conv in (L16 _) => arg 1; cbv
  cbv
  rewrite [e_Pl]
  cbv
  rewrite [e_b00]
  cbv
  rewrite [e_Ol]
  cbv
  rewrite [e_b01]
  cbv
  rewrite [e_b10]
  cbv
  conv in (L16 _) => arg 1; cbv
  cbv
  rewrite [e_b00]
  cbv
  conv in (L16 _) => arg 1; cbv
  cbv
  rewrite [e_b00]
  cbv
  rewrite [hF]
  cbv
  rewrite [e_Px]
  cbv
  rewrite [hP]
  cbv
  rewrite [e_Pn]
  cbv
  rewrite [e_Pl]
  cbv
  rewrite [keq (6) (0)]
  cbv
  rewrite [e_Pl]
  cbv
  rewrite [e_b00]
  cbv
  rewrite [e_b01]
  cbv
  rewrite [e_b10]
  cbv
  rewrite [keq (6) (1)]
  cbv
  rewrite [e_b00]
  cbv
  rewrite [e_Pl]
  cbv
  rewrite [keq (6) (2)]
  cbv
  rewrite [e_Pl]
  cbv
  rewrite [e_b00]
  cbv
  rewrite [e_b01]
  cbv
  rewrite [e_b10]
  cbv
  rewrite [keq (6) (3)]
  cbv
  rewrite [e_b00]
  cbv
  rewrite [e_Pl]
  cbv
  rewrite [keq (6) (4)]
  cbv
  rewrite [e_Pl]
  cbv
  rewrite [e_b00]
  cbv
  rewrite [e_b01]
  cbv
  rewrite [e_b10]
  cbv
  rewrite [keq (6) (5)]
  cbv
  rewrite [e_b00]
  cbv
  rewrite [e_Pl]
  cbv
  rewrite [keq (6) (6)]
  cbv
  rewrite [e_Pl]
  cbv
  rewrite [e_b00]
  cbv
  rewrite [e_b01]
  cbv
  rewrite [e_b10]
  cbv
  rewrite [e_Pl]
  cbv
  rewrite [e_Pl]
  cbv
  rewrite [e_b00]
  cbv
  rewrite [e_b01]
  cbv
  rewrite [e_b10]
  cbv
  rewrite [e_Pl]
  cbv
  rewrite [e_Pl]
  cbv
  rewrite [e_b00]
  cbv
  rewrite [e_b01]
  cbv
  rewrite [e_b10]
  cbv
  rewrite [e_Pl]
  cbv
  rewrite [e_Pl]
  cbv
  rewrite [e_b00]
  cbv
  rewrite [e_b01]
  cbv
  rewrite [e_b10]
  cbv
  rewrite [e_Pl]
  cbv
  rewrite [e_Pl]
  cbv
  rewrite [e_b00]
  cbv
  rewrite [e_b01]
  cbv
  rewrite [e_b10]
  cbv
  rewrite [e_Px]
  cbv
  rewrite [e_b00]
  cbv
  rewrite [e_Pl]
  cbv
  rewrite [e_Pl]
  cbv
  rewrite [e_b00]
  cbv
  rewrite [e_b01]
  cbv
  rewrite [e_b10]
  cbv
  rewrite [e_Pl]
  cbv
  rewrite [e_Pl]
  cbv
  rewrite [e_b00]
  cbv
  rewrite [e_b01]
  cbv
  rewrite [e_b10]
  cbv
  rewrite [e_Pl]
  cbv
  rewrite [e_Pl]
  cbv
  rewrite [e_b00]
  cbv
  rewrite [e_b01]
  cbv
  rewrite [e_b10]
  cbv
  rewrite [e_Pl]
  cbv
  rewrite [e_Pl]
  cbv
  rewrite [e_b00]
  cbv
  rewrite [e_b01]
  cbv
  rewrite [e_b10]
  cbv
  rewrite [e_Px]
  cbv
  rewrite [e_Pl]
  cbv
  rewrite [e_b00]
  cbv
  rewrite [e_b01]
  cbv
  rewrite [e_b10]
  cbv
  rewrite [e_Pl]
  cbv
  rewrite [e_Pl]
  cbv
  rewrite [e_b00]
  cbv
  rewrite [e_b01]
  cbv
  rewrite [e_b10]
  cbv
  rewrite [e_Pl]
  cbv
  rewrite [e_Pl]
  cbv
  rewrite [e_b00]
  cbv
  rewrite [e_b01]
  cbv
  rewrite [e_b10]
  cbv
  rewrite [e_Pl]
  cbv
  rewrite [e_Pl]
  cbv
  rewrite [e_b00]
  cbv
  rewrite [e_b01]
  cbv
  rewrite [e_b10]
  cbv
  rewrite [e_Pj]
  cbv
  rewrite [e_b00]
  cbv
  rewrite [e_Pl]
  cbv
  rewrite [e_Pl]
  cbv
  rewrite [e_b00]
  cbv
  rewrite [e_b01]
  cbv
  rewrite [e_b10]
  cbv
  rewrite [e_Pl]
  cbv
  rewrite [e_Pl]
  cbv
  rewrite [e_b00]
  cbv
  rewrite [e_b01]
  cbv
  rewrite [e_b10]
  cbv
  rewrite [e_Pl]
  cbv
  rewrite [e_Pl]
  cbv
  rewrite [e_b00]
  cbv
  rewrite [e_b01]
  cbv
  rewrite [e_b10]
  cbv
  rewrite [e_Pj]
  cbv
  rewrite [e_b00]
  cbv
  rewrite [e_Pl]
  cbv
  rewrite [h3]
  cbv
  rewrite [e_Pl]
  cbv
  rewrite [e_b00]
  cbv
  rewrite [e_b01]
  cbv
  rewrite [e_b10]
  cbv
  rewrite [h13]
  cbv
  rewrite [e_b00]
  cbv
  rewrite [e_Pl]
  cbv
  rewrite [h13]
  cbv
  rewrite [e_Pl]
  cbv
  rewrite [e_b00]
  cbv
  rewrite [e_b01]
  cbv
  rewrite [e_b10]
  cbv
  rewrite [e_Pl]
  cbv
  rewrite [e_Pl]
  cbv
  rewrite [e_b00]
  cbv
  rewrite [e_b01]
  cbv
  rewrite [e_b10]
  cbv
  rewrite [e_a1]
  cbv
  rewrite [e_a2]
  cbv
  rewrite [e_a3]
  cbv
  rewrite [e_a3]
  cbv
  rewrite [e_a6]
  cbv
  rewrite [e_a7]
  cbv
  rewrite [e_2l]
  cbv
  rewrite [e_b00]
  cbv
  rewrite [e_b01]
  cbv
  rewrite [e_b10]
  cbv
  rewrite [e_a3]
  cbv
  rewrite [e_a3]
  cbv
  rewrite [e_a6]
  cbv
  rewrite [e_a7]
  cbv
  rewrite [e_2l]
  cbv
  rewrite [e_b00]
  cbv
  rewrite [e_b01]
  cbv
  rewrite [e_b10]
  cbv
  rewrite [e_a5]
  cbv
  rewrite [e_b00]
  cbv
  rewrite [e_Pl]
  cbv
  rewrite [h5]
  cbv
  rewrite [e_Pl]
  cbv
  rewrite [e_im]
  cbv
  rewrite [e_b00]
  cbv
  rewrite [e_b01]
  cbv
  rewrite [e_b10]
  cbv
  rewrite [h8]
  cbv
  rewrite [e_b00]
  cbv
  rewrite [e_a1]
  cbv
  rewrite [e_a2]
  cbv
  rewrite [e_a3]
  cbv
  rewrite [e_a3]
  cbv
  rewrite [e_a6]
  cbv
  rewrite [e_a7]
  cbv
  rewrite [e_2l]
  cbv
  rewrite [e_b00]
  cbv
  rewrite [e_b01]
  cbv
  rewrite [e_b10]
  cbv
  rewrite [e_a3]
  cbv
  rewrite [e_a3]
  cbv
  rewrite [e_a6]
  cbv
  rewrite [e_a7]
  cbv
  rewrite [e_2l]
  cbv
  rewrite [e_b00]
  cbv
  rewrite [e_b01]
  cbv
  rewrite [e_b10]
  cbv
  rewrite [e_a2]
  cbv
  rewrite [e_a5]
  cbv
  rewrite [e_a3]
  cbv
  rewrite [e_a6]
  cbv
  rewrite [e_a7]
  cbv
  rewrite [e_2l]
  cbv
  rewrite [e_b00]
  cbv
  rewrite [e_b01]
  cbv
  rewrite [e_b10]
  cbv
  rewrite [h6]
  cbv
  rewrite [e_b00]
  cbv
  rewrite [e_a3]
  cbv
  rewrite [h9]
  cbv
  rewrite [e_a3]
  cbv
  rewrite [e_a6]
  cbv
  rewrite [e_a7]
  cbv
  rewrite [e_2l]
  cbv
  rewrite [e_b00]
  cbv
  rewrite [e_b01]
  cbv
  rewrite [e_b10]
  cbv
  rewrite [e_a2]
  cbv
  rewrite [e_a2]
  cbv
  rewrite [e_a5]
  cbv
  rewrite [e_b00]
  cbv
  rewrite [e_a2]
  cbv
  rewrite [e_a2]
  cbv
  rewrite [h7]
  cbv
  rewrite [e_a2]
  cbv
  rewrite [e_a3]
  cbv
  rewrite [h10]
  cbv
  rewrite [e_a3]
  cbv
  rewrite [e_a6]
  cbv
  rewrite [e_a7]
  cbv
  rewrite [e_2l]
  cbv
  rewrite [e_b00]
  cbv
  rewrite [e_b10]
  cbv
  conv in (L54 _) => arg 1; cbv
  cbv
  rewrite [e_b00]
  cbv
  conv in (L54 _) => arg 1; cbv
  cbv
  rewrite [e_b00]
  cbv
  rewrite [e_2l]
  cbv
  conv in (L54 _) => arg 1; cbv
  cbv
  rewrite [e_2l]
  cbv
  rewrite [e_b00]
  cbv
  conv in (L54 _) => arg 1; cbv
  cbv
  rewrite [e_b00]
  cbv
  rewrite [hC]
  cbv
  rewrite [e_2l]
  cbv
  rewrite [h2]
  cbv
  conv in (L11 _) => arg 1; cbv
  cbv
  rewrite [e_2l]
  cbv
  rewrite [e_b00]
  cbv
  conv in (L11 _) => arg 1; cbv
  cbv
  rewrite [e_b00]
  cbv
  rewrite [hr]
  cbv
end
end ArInt
end Go.Va
namespace Go.Va
open Go.Proofs
set_option maxRecDepth 100000
set_option maxHeartbeats 4000000
namespace ArInt
section
variable (A : Ar) (hA : ArOk A) (ss fs ss2 fs2 ds is ms is2 ms2 ia ib ma mb : List AV) (n m m2 i j k p : Nat) (room last l2 id d rl nx nx2 at_ w x y q : Int) (O P P2 O2 Q Q2 : Seg)
include hA
theorem lp_ap_setY {r : Option Res} (e0 : ds.length = n) (e1 : lget ds i = some (.agg [.s (.int .i64 w), .s (.int .i64 d), .s (.int .i64 x)])) (e2 : Nat.ble (Nat.succ i) n = true) (h1 : A.lt (.ofNat i) (.ofNat n) = true) (h2 : A.add .i64 (.ofNat i) 1 = .ofNat (Nat.succ i)) (e_Ol : O.length = Nat.succ j) (e_P : O ++ [[.s (.int .i64 w), .s (.int .i64 d), .s (.int .i64 x)]] = P) (e_Pl : P.length = Nat.succ (Nat.succ j)) (e_Px : lget P (Nat.succ j) = some [.s (.int .i64 w), .s (.int .i64 d), .s (.int .i64 x)]) (e_Pj : lget P j = some [.sl 2 ss .full, .sl 1 fs .full, .s (.int .i64 room), .s (.int .i64 rl)]) (e_Pn : P ++ [] = P) (e_im : is.length = m) (e_mm : ms.length = m) (e_z : 0 + m = m) (e_mle : Nat.ble m m = true) (hP : evl (envV A) (.call 35 [.s (.int .i64 w), .s (.int .i64 8)] []) = some (.ret (.s (.int .i64 q)) [])) (hF : lpOf (envV A) 7 bd7 16 (stF room ds is ms nx P j i (-1) 0) = some (.code (.exit 2) (stFe room ds is ms nx P j i (.ofNat p) m))) (h3 : evl (envV A) (.call 39 [.ptr 0 0, .s (.int .i64 d), .s (.int .i64 x)] [arO ss fs room rl]) = some (.ret (.s (.bool true)) [arO ss2 fs2 room l2])) (h13 : A.le 0 (.ofNat p) = true) (e_d4 : Nat.ble (Nat.succ p) m = true) (e_d3 : 0 + p = p) (e_d5 : lget ms p = some (.s (.int .i64 y))) (e_d6 : lset ms p (.s (.int .i64 x)) = ms2) (e_d7 : ms2.length = m) (e_a1 : lset P j [.sl 2 ss2 .full, .sl 1 fs2 .full, .s (.int .i64 room), .s (.int .i64 l2)] = P2) (e_a2 : P2 ++ [] = P2) (e_a3 : P2.length = Nat.succ (Nat.succ j)) (e_a4 : lget P2 (Nat.succ j) = some [.s (.int .i64 w), .s (.int .i64 d), .s (.int .i64 x)]) (e_a5 : lget P2 j = some [.sl 2 ss2 .full, .sl 1 fs2 .full, .s (.int .i64 room), .s (.int .i64 l2)]) (e_a6 : P2.dropLast = O2) (e_a7 : refSeg (Nat.succ j) O2 = false) (e_2l : O2.length = Nat.succ (j)) (e_2j : lget O2 (j) = some [.sl 2 ss2 .full, .sl 1 fs2 .full, .s (.int .i64 room), .s (.int .i64 l2)]) (e_2n : O2 ++ [] = O2) (e_2m : is.length = m) (h5 : evl (envV A) (.call 41 [arV ss2 fs2 room l2] []) = some (.ret (.s (.int .i64 (.ofNat m))) [])) (h6 : evl (envV A) (.call 42 [arV ss2 fs2 room l2] []) = some (.ret (.s (.int .i64 nx)) [])) (h7 : evl (envV A) (.call 43 [arV ss2 fs2 room l2] []) = some (.ret (.s (.int .i64 room)) [])) (h8 : A.eq (.ofNat m) (.ofNat m) = true) (h9 : A.eq nx nx = true) (h10 : A.eq room room = true) (hC : lpOf (envV A) 7 bd7 54 (stC room ds is ms2 nx O2 (j) i 0) = some (.code (.exit 5) (stCe room ds is ms2 nx O2 (j) i m))) (hr : lpOf (envV A) 7 bd7 11 (stL room ds is ms2 nx O2 (j) (Nat.succ i)) = r) (e_b00 : Nat.beq (j) (j) = true) (e_b01 : Nat.beq (j) (Nat.succ j) = false) (e_b02 : Nat.beq (j) (Nat.succ (Nat.succ j)) = false) (e_b03 : Nat.beq (j) (Nat.succ (Nat.succ (Nat.succ j))) = false) (e_b10 : Nat.beq (Nat.succ j) (j) = false) (e_b11 : Nat.beq (Nat.succ j) (Nat.succ j) = true) (e_b12 : Nat.beq (Nat.succ j) (Nat.succ (Nat.succ j)) = false) (e_b13 : Nat.beq (Nat.succ j) (Nat.succ (Nat.succ (Nat.succ j))) = false) (e_b20 : Nat.beq (Nat.succ (Nat.succ j)) (j) = false) (e_b21 : Nat.beq (Nat.succ (Nat.succ j)) (Nat.succ j) = false) (e_b22 : Nat.beq (Nat.succ (Nat.succ j)) (Nat.succ (Nat.succ j)) = true) (e_b23 : Nat.beq (Nat.succ (Nat.succ j)) (Nat.succ (Nat.succ (Nat.succ j))) = false) (e_b30 : Nat.beq (Nat.succ (Nat.succ (Nat.succ j))) (j) = false) (e_b31 : Nat.beq (Nat.succ (Nat.succ (Nat.succ j))) (Nat.succ j) = false) (e_b32 : Nat.beq (Nat.succ (Nat.succ (Nat.succ j))) (Nat.succ (Nat.succ j)) = false) (e_b33 : Nat.beq (Nat.succ (Nat.succ (Nat.succ j))) (Nat.succ (Nat.succ (Nat.succ j))) = true) (hq : q = 6) :
    lpOf (envV A) 7 bd7 11 (stL room ds is ms nx O j i) = r := by
  unfold stF stFe at hF; unfold stC stCe at hC; unfold stL at hr ⊢; unfold arO at *; unfold arV at *
  simp only [show Int.ofNat 0 = 0 from rfl] at hF hC
  subst hq
  rw [lp_step (envV A) 7 (c0 := bd7) (lv := lvF7) rfl rfl]
  have hnle := hA.nleE; have hneq := hA.neqE
  have klt := hA.lt; have kle := hA.le; have keq := hA.eq; have knle := hA.nle; have kneq := hA.neq
  rw [lp_split (lpOf (envV A) 7 bd7) 11]
  generalize lpOf (envV A) 7 bd7 11 = L11 at e0 e1 e2 h1 h2 e_Ol e_P e_Pl e_Px e_Pj e_Pn e_im e_mm e_z e_mle hP hF h3 h13 e_d4 e_d3 e_d5 e_d6 e_d7 e_a1 e_a2 e_a3 e_a4 e_a5 e_a6 e_a7 e_2l e_2j e_2n e_2m h5 h6 h7 h8 h9 h10 hC hr e_b00 e_b01 e_b02 e_b03 e_b10 e_b11 e_b12 e_b13 e_b20 e_b21 e_b22 e_b23 e_b30 e_b31 e_b32 e_b33 ⊢
  rw [lp_split (lpOf (envV A) 7 bd7) 16]
  generalize lpOf (envV A) 7 bd7 16 = L16 at e0 e1 e2 h1 h2 e_Ol e_P e_Pl e_Px e_Pj e_Pn e_im e_mm e_z e_mle hP hF h3 h13 e_d4 e_d3 e_d5 e_d6 e_d7 e_a1 e_a2 e_a3 e_a4 e_a5 e_a6 e_a7 e_2l e_2j e_2n e_2m h5 h6 h7 h8 h9 h10 hC hr e_b00 e_b01 e_b02 e_b03 e_b10 e_b11 e_b12 e_b13 e_b20 e_b21 e_b22 e_b23 e_b30 e_b31 e_b32 e_b33 ⊢
  rw [lp_split (lpOf (envV A) 7 bd7) 54]
  generalize lpOf (envV A) 7 bd7 54 = L54 at e0 e1 e2 h1 h2 e_Ol e_P e_Pl e_Px e_Pj e_Pn e_im e_mm e_z e_mle hP hF h3 h13 e_d4 e_d3 e_d5 e_d6 e_d7 e_a1 e_a2 e_a3 e_a4 e_a5 e_a6 e_a7 e_2l e_2j e_2n e_2m h5 h6 h7 h8 h9 h10 hC hr e_b00 e_b01 e_b02 e_b03 e_b10 e_b11 e_b12 e_b13 e_b20 e_b21 e_b22 e_b23 e_b30 e_b31 e_b32 e_b33 ⊢
  generalize lpOf (envV A) 7 bd7 = LP
  generalize evl (envV A) = E at e0 e1 e2 h1 h2 e_Ol e_P e_Pl e_Px e_Pj e_Pn e_im e_mm e_z e_mle hP hF h3 h13 e_d4 e_d3 e_d5 e_d6 e_d7 e_a1 e_a2 e_a3 e_a4 e_a5 e_a6 e_a7 e_2l e_2j e_2n e_2m h5 h6 h7 h8 h9 h10 hC hr e_b00 e_b01 e_b02 e_b03 e_b10 e_b11 e_b12 e_b13 e_b20 e_b21 e_b22 e_b23 e_b30 e_b31 e_b32 e_b33 ⊢
  obtain ⟨aadd, asub, amul, arem, aquo, awr, ashr, aeq, alt, ale, aseq, aslt, acat, acut, asiz, aat, anle, aneq, afit⟩ := A
  simp only at hnle hneq
  subst hnle hneq
  simp only at klt kle keq knle kneq
  try simp only at h1 h2 hP hF h3 h13 h5 h6 h7 h8 h9 h10 hC hr
  conv at e0 => lhs; cbv
  conv at e1 => lhs; cbv
  conv at e2 => lhs; cbv
  conv at e_Ol => lhs; cbv
  conv at e_P => lhs; cbv
  conv at e_Pl => lhs; cbv
  conv at e_Px => lhs; cbv
  conv at e_Pj => lhs; cbv
  conv at e_Pn => lhs; cbv
  conv at e_im => lhs; cbv
  conv at e_mm => lhs; cbv
  conv at e_z => lhs; cbv
  conv at e_mle => lhs; cbv
  conv at e_d4 => lhs; cbv
  conv at e_d3 => lhs; cbv
  conv at e_d5 => lhs; cbv
  conv at e_d6 => lhs; cbv
  conv at e_d7 => lhs; cbv
  conv at e_a1 => lhs; cbv
  conv at e_a2 => lhs; cbv
  conv at e_a3 => lhs; cbv
  conv at e_a4 => lhs; cbv
  conv at e_a5 => lhs; cbv
  conv at e_a6 => lhs; cbv
  conv at e_a7 => lhs; cbv
  conv at e_2l => lhs; cbv
  conv at e_2j => lhs; cbv
  conv at e_2n => lhs; cbv
  conv at e_2m => lhs; cbv
  conv at e_b00 => lhs; cbv
  conv at e_b01 => lhs; cbv
  conv at e_b02 => lhs; cbv
  conv at e_b03 => lhs; cbv
  conv at e_b10 => lhs; cbv
  conv at e_b11 => lhs; cbv
  conv at e_b12 => lhs; cbv
  conv at e_b13 => lhs; cbv
  conv at e_b20 => lhs; cbv
  conv at e_b21 => lhs; cbv
  conv at e_b22 => lhs; cbv
  conv at e_b23 => lhs; cbv
  conv at e_b30 => lhs; cbv
  conv at e_b31 => lhs; cbv
  conv at e_b32 => lhs; cbv
  conv at e_b33 => lhs; cbv
  cbv
  rewrite [e0]
  cbv
  rewrite [e_Ol]
  cbv
  rewrite [h1]
  cbv
  rewrite [e1]
  cbv
  rewrite [e_Ol]
  cbv
  rewrite [e_b00]
  cbv
  conv in (L16 _) => arg 1; cbv
  cbv
  rewrite [e_b00]
  cbv
  rewrite [e_Ol]
  cbv
  rewrite [e_P]
  cbv
  rewrite [e_Pl]
  cbv
  conv in (L16 _) => arg 1; cbv
  cbv
  rewrite [e_Pl]
  cbv
  rewrite [e_b00]
  cbv
  rewrite [e_Ol]
  cbv
  rewrite [e_b01]
  cbv
  rewrite [e_b10]
  cbv
  conv in (L16 _) => arg 1; cbv
  cbv
  rewrite [e_b00]
  cbv
  conv in (L16 _) => arg 1; cbv
  cbv
  rewrite [e_b00]
  cbv
  rewrite [e_Pl]
  cbv
  conv in (L16 _) => arg 1; cbv
  cbv
  rewrite [e_Pl]
  cbv
  rewrite [e_b00]
  cbv
  rewrite [e_Ol]
  cbv
  rewrite [e_b01]
  cbv
  rewrite [e_b10]
  cbv
  conv in (L16 _) => arg 1; cbv
  cbv
  rewrite [e_b00]
  cbv
  conv in (L16 _) => arg 1; cbv
  cbv
  rewrite [e_b00]
  cbv
  rewrite [e_Pl]
  cbv
  conv in (L16 _) => arg 1; cbv
  cbv
  rewrite [e_Pl]
  cbv
  rewrite [e_b00]
  cbv
  rewrite [e_Ol]
  cbv
  rewrite [e_b01]
  cbv
  rewrite [e_b10]
  cbv
  conv in (L16 _) => arg 1; cbv
  cbv
  rewrite [e_b00]
  cbv
  conv in (L16 _) => arg 1; cbv
  cbv
  rewrite [e_b00]
  cbv
  rewrite [hF]
  cbv
  rewrite [e_Px]
  cbv
  rewrite [hP]
  cbv
  rewrite [e_Pn]
  cbv
  rewrite [e_Pl]
  cbv
  rewrite [keq (6) (0)]
  cbv
  rewrite [e_Pl]
  cbv
  rewrite [e_b00]
  cbv
  rewrite [e_b01]
  cbv
  rewrite [e_b10]
  cbv
  rewrite [keq (6) (1)]
  cbv
  rewrite [e_b00]
  cbv
  rewrite [e_Pl]
  cbv
  rewrite [keq (6) (2)]
  cbv
  rewrite [e_Pl]
  cbv
  rewrite [e_b00]
  cbv
  rewrite [e_b01]
  cbv
  rewrite [e_b10]
  cbv
  rewrite [keq (6) (3)]
  cbv
  rewrite [e_b00]
  cbv
  rewrite [e_Pl]
  cbv
  rewrite [keq (6) (4)]
  cbv
  rewrite [e_Pl]
  cbv
  rewrite [e_b00]
  cbv
  rewrite [e_b01]
  cbv
  rewrite [e_b10]
  cbv
  rewrite [keq (6) (5)]
  cbv
  rewrite [e_b00]
  cbv
  rewrite [e_Pl]
  cbv
  rewrite [keq (6) (6)]
  cbv
  rewrite [e_Pl]
  cbv
  rewrite [e_b00]
  cbv
  rewrite [e_b01]
  cbv
  rewrite [e_b10]
  cbv
  rewrite [e_Pl]
  cbv
  rewrite [e_Pl]
  cbv
  rewrite [e_b00]
  cbv
  rewrite [e_b01]
  cbv
  rewrite [e_b10]
  cbv
  rewrite [e_Pl]
  cbv
  rewrite [e_Pl]
  cbv
  rewrite [e_b00]
  cbv
  rewrite [e_b01]
  cbv
  rewrite [e_b10]
  cbv
  rewrite [e_Pl]
  cbv
  rewrite [e_Pl]
  cbv
  rewrite [e_b00]
  cbv
  rewrite [e_b01]
  cbv
  rewrite [e_b10]
  cbv
  rewrite [e_Pl]
  cbv
  rewrite [e_Pl]
  cbv
  rewrite [e_b00]
  cbv
  rewrite [e_b01]
  cbv
  rewrite [e_b10]
  cbv
  rewrite [e_Px]
  cbv
  rewrite [e_b00]
  cbv
  rewrite [e_Pl]
  cbv
  rewrite [e_Pl]
  cbv
  rewrite [e_b00]
  cbv
  rewrite [e_b01]
  cbv
  rewrite [e_b10]
  cbv
  rewrite [e_Pl]
  cbv
  rewrite [e_Pl]
  cbv
  rewrite [e_b00]
  cbv
  rewrite [e_b01]
  cbv
  rewrite [e_b10]
  cbv
  rewrite [e_Pl]
  cbv
  rewrite [e_Pl]
  cbv
  rewrite [e_b00]
  cbv
  rewrite [e_b01]
  cbv
  rewrite [e_b10]
  cbv
  rewrite [e_Pl]
  cbv
  rewrite [e_Pl]
  cbv
  rewrite [e_b00]
  cbv
  rewrite [e_b01]
  cbv
  rewrite [e_b10]
  cbv
  rewrite [e_Px]
  cbv
  rewrite [e_Pl]
  cbv
  rewrite [e_b00]
  cbv
  rewrite [e_b01]
  cbv
  rewrite [e_b10]
  cbv
  rewrite [e_Pl]
  cbv
  rewrite [e_Pl]
  cbv
  rewrite [e_b00]
  cbv
  rewrite [e_b01]
  cbv
  rewrite [e_b10]
  cbv
  rewrite [e_Pl]
  cbv
  rewrite [e_Pl]
  cbv
  rewrite [e_b00]
  cbv
  rewrite [e_b01]
  cbv
  rewrite [e_b10]
  cbv
  rewrite [e_Pl]
  cbv
  rewrite [e_Pl]
  cbv
  rewrite [e_b00]
  cbv
  rewrite [e_b01]
  cbv
  rewrite [e_b10]
  cbv
  rewrite [e_Pj]
  cbv
  rewrite [e_b00]
  cbv
  rewrite [e_Pl]
  cbv
  rewrite [e_Pl]
  cbv
  rewrite [e_b00]
  cbv
  rewrite [e_b01]
  cbv
  rewrite [e_b10]
  cbv
  rewrite [e_Pl]
  cbv
  rewrite [e_Pl]
  cbv
  rewrite [e_b00]
  cbv
  rewrite [e_b01]
  cbv
  rewrite [e_b10]
  cbv
  rewrite [e_Pl]
  cbv
  rewrite [e_Pl]
  cbv
  rewrite [e_b00]
  cbv
  rewrite [e_b01]
  cbv
  rewrite [e_b10]
  cbv
  rewrite [e_Pj]
  cbv
  rewrite [e_b00]
  cbv
  rewrite [e_Pl]
  cbv
  rewrite [h3]
  cbv
  rewrite [e_Pl]
  cbv
  rewrite [e_b00]
  cbv
  rewrite [e_b01]
  cbv
  rewrite [e_b10]
  cbv
  rewrite [h13]
  cbv
  rewrite [e_b00]
  cbv
  rewrite [e_Pl]
  cbv
  rewrite [h13]
  cbv
  rewrite [e_Pl]
  cbv
  rewrite [e_mm]
  cbv
  rewrite [e_b00]
  cbv
  rewrite [e_b01]
  cbv
  rewrite [e_b10]
  cbv
  rewrite [e_Pl]
  cbv
  rewrite [e_Pl]
  cbv
  rewrite [e_b00]
  cbv
  rewrite [e_b01]
  cbv
  rewrite [e_b10]
  cbv
  rewrite [e_a1]
  cbv
  rewrite [e_a2]
  cbv
  rewrite [e_a3]
  cbv
  rewrite [e_a3]
  cbv
  rewrite [e_a6]
  cbv
  rewrite [e_a7]
  cbv
  rewrite [e_2l]
  cbv
  rewrite [e_b00]
  cbv
  rewrite [e_b01]
  cbv
  rewrite [e_b10]
  cbv
  rewrite [e_a3]
  cbv
  rewrite [e_a3]
  cbv
  rewrite [e_a6]
  cbv
  rewrite [e_a7]
  cbv
  rewrite [e_2l]
  cbv
  rewrite [e_b00]
  cbv
  rewrite [e_b01]
  cbv
  rewrite [e_b10]
  cbv
  rewrite [e_a4]
  cbv
  rewrite [e_d4]
  cbv
  rewrite [e_d3]
  cbv
  rewrite [e_d5]
  cbv
  rewrite [e_d6]
  cbv
  rewrite [e_b00]
  cbv
  rewrite [e_Pl]
  cbv
  rewrite [e_Pl]
  cbv
  rewrite [e_b00]
  cbv
  rewrite [e_b01]
  cbv
  rewrite [e_b10]
  cbv
  rewrite [e_a1]
  cbv
  rewrite [e_a2]
  cbv
  rewrite [e_a3]
  cbv
  rewrite [e_a3]
  cbv
  rewrite [e_a6]
  cbv
  rewrite [e_a7]
  cbv
  rewrite [e_2l]
  cbv
  rewrite [e_b00]
  cbv
  rewrite [e_b01]
  cbv
  rewrite [e_b10]
  cbv
  rewrite [e_a3]
  cbv
  rewrite [e_a3]
  cbv
  rewrite [e_a6]
  cbv
  rewrite [e_a7]
  cbv
  rewrite [e_2l]
  cbv
  rewrite [e_b00]
  cbv
  rewrite [e_b01]
  cbv
  rewrite [e_b10]
  cbv
  rewrite [e_a3]
  cbv
  rewrite [e_a3]
  cbv
  rewrite [e_a6]
  cbv
  rewrite [e_a7]
  cbv
  rewrite [e_2l]
  cbv
  rewrite [e_b00]
  cbv
  rewrite [e_b10]
  cbv
  rewrite [e_b00]
  cbv
  rewrite [e_2j]
  cbv
  rewrite [e_Pl]
  cbv
  rewrite [e_b00]
  cbv
  rewrite [e_b01]
  cbv
  rewrite [e_b10]
  cbv
  rewrite [h5]
  cbv
  rewrite [e_im]
  cbv
  rewrite [e_b00]
  cbv
  rewrite [e_a1]
  cbv
  rewrite [e_a2]
  cbv
  rewrite [e_a3]
  cbv
  rewrite [h8]
  cbv
  rewrite [e_a3]
  cbv
  rewrite [e_a6]
  cbv
  rewrite [e_a7]
  cbv
  rewrite [e_2l]
  cbv
  rewrite [e_b00]
  cbv
  rewrite [e_b01]
  cbv
  rewrite [e_b10]
  cbv
  rewrite [e_a3]
  cbv
  rewrite [e_a3]
  cbv
  rewrite [e_a6]
  cbv
  rewrite [e_a7]
  cbv
  rewrite [e_2l]
  cbv
  rewrite [e_b00]
  cbv
  rewrite [e_b01]
  cbv
  rewrite [e_b10]
  cbv
  rewrite [e_a3]
  cbv
  rewrite [e_a3]
  cbv
  rewrite [e_a6]
  cbv
  rewrite [e_a7]
  cbv
  rewrite [e_2l]
  cbv
  rewrite [e_b00]
  cbv
  rewrite [e_b10]
  cbv
  rewrite [e_b00]
  cbv
  rewrite [e_2n]
  cbv
  rewrite [e_2j]
  cbv
  rewrite [e_b00]
  cbv
  rewrite [e_a3]
  cbv
  rewrite [h6]
  cbv
  rewrite [e_a3]
  cbv
  rewrite [e_a6]
  cbv
  rewrite [e_a7]
  cbv
  rewrite [e_2l]
  cbv
  rewrite [e_b00]
  cbv
  rewrite [e_b01]
  cbv
  rewrite [e_b10]
  cbv
  rewrite [h9]
  cbv
  rewrite [e_b00]
  cbv
  rewrite [e_a3]
  cbv
  rewrite [e_a3]
  cbv
  rewrite [e_a6]
  cbv
  rewrite [e_a7]
  cbv
  rewrite [e_2l]
  cbv
  rewrite [e_b00]
  cbv
  rewrite [e_b10]
  cbv
  rewrite [e_b00]
  cbv
  rewrite [e_2n]
  cbv
  rewrite [e_2n]
  cbv
  rewrite [e_2j]
  cbv
  rewrite [e_a3]
  cbv
  rewrite [e_a6]
  cbv
  rewrite [e_a7]
  cbv
  rewrite [e_2l]
  cbv
  rewrite [e_b00]
  cbv
  rewrite [e_b10]
  cbv
  rewrite [h7]
  cbv
  rewrite [e_b00]
  cbv
  rewrite [h10]
  cbv
  rewrite [e_b00]
  cbv
  rewrite [e_2n]
  cbv
  rewrite [e_2n]
  cbv
  rewrite [e_2n]
  cbv
  rewrite [e_2l]
  cbv
  conv in (L54 _) => arg 1; cbv
  cbv
  rewrite [e_2l]
  cbv
  rewrite [e_b00]
  cbv
  conv in (L54 _) => arg 1; cbv
  cbv
  rewrite [e_b00]
  cbv
  rewrite [e_2l]
  cbv
  conv in (L54 _) => arg 1; cbv
  cbv
  rewrite [e_2l]
  cbv
  rewrite [e_b00]
  cbv
  conv in (L54 _) => arg 1; cbv
  cbv
  rewrite [e_b00]
  cbv
  rewrite [hC]
  cbv
  rewrite [e_2l]
  cbv
  rewrite [h2]
  cbv
  conv in (L11 _) => arg 1; cbv
  cbv
  rewrite [e_2l]
  cbv
  rewrite [e_b00]
  cbv
  conv in (L11 _) => arg 1; cbv
  cbv
  rewrite [e_b00]
  cbv
  rewrite [hr]
  cbv
end
end ArInt
end Go.Va
