/- The functions that the statement reaches, by equations: no statement of its own. -/
import Derived.Test.YtmklimlepgiffabEq8
set_option linter.unusedVariables false
set_option linter.unusedSimpArgs false
set_option linter.unusedSectionVars false
namespace Go.Va
open Go.Proofs
set_option maxRecDepth 100000
set_option maxHeartbeats 4000000
def stI (xs : List AV) (p : Perm) (n i : Nat) (ss : List AV) (t k : Nat) (out : List AV) : St := { n := 55, k := 0, fr := [(0, .sl 3 xs p), (4, .sl 1 out .full), (9, .sl 3 xs p), (10, .s (.int .i64 (.ofNat n))), (11, .s (.int .i64 (.ofNat i))), (33, .sl 1 ss .full), (34, .s (.int .i64 (.ofNat t))), (35, .s (.int .i64 (.ofNat k)))], O := [] }
def stIe (xs : List AV) (p : Perm) (n i : Nat) (ss : List AV) (t k : Nat) (out : List AV) : St := { n := 55, k := 0, fr := [(0, .sl 3 xs p), (4, .sl 1 out .full), (9, .sl 3 xs p), (10, .s (.int .i64 (.ofNat n))), (11, .s (.int .i64 (.ofNat i))), (33, .sl 1 ss .full), (34, .s (.int .i64 (.ofNat t))), (35, .s (.int .i64 (.ofNat k))), (36, .s (.bool false))], O := [] }
def stP (xs : List AV) (p : Perm) (n i : Nat) (out : List AV) : St := { n := 55, k := 0, fr := [(0, .sl 3 xs p), (4, .sl 1 out .full), (9, .sl 3 xs p), (10, .s (.int .i64 (.ofNat n))), (11, .s (.int .i64 (.ofNat i)))], O := [] }
section
variable (A : Ar) (hA : ArOk A) 
include hA
theorem lp_put_in (xs ss out out2 out3 bs : List AV) (p : Perm) (hp : p = .ro ∨ p = .imm) (s : ByteArray) (n i t k c z m m2 m3 m4 : Nat) {r : Option Res} (e0 : lget ss k = some (.s (.string s))) (e1 : out.length = m) (e2 : out ++ [.s (.int .u8 (.ofNat c))] = out2) (e3 : out2.length = m2)
    (e4 : ofBytes s = bs) (e5 : out2 ++ bs = out3) (e6 : bs.length = m3) (e7 : Nat.beq m m = true) (e8 : Nat.beq m2 m2 = true) (e9 : m2 + m3 = m4) (es : ss.length = t) (et : Nat.ble (Nat.succ k) t = true)
    (h1 : A.lt (.ofNat k) (.ofNat t) = true) (h2 : A.wr .u8 (.ofNat z) = .ofNat c) (h3 : A.add .i64 (.ofNat k) 1 = .ofNat (Nat.succ k)) (h4 : A.fit (Nat.succ m) 1 = true) (h5 : A.fit m4 1 = true) (h6 : A.siz s = z)
    (h7 : lpOf (envV A) 21 bd21 9 (stI xs p n i ss t (Nat.succ k) out3) = r) : lpOf (envV A) 21 bd21 9 (stI xs p n i ss t k out) = r := by
  unfold stI at h7 ⊢
  rcases hp with rfl | rfl
  ·
    rw [lp_step (envV A) 21 (c0 := bd21) (lv := lvF21) rfl rfl]
    have hnle := hA.nleE; have hneq := hA.neqE
    rw [lp_split (lpOf (envV A) 21 bd21) 9]
    generalize lpOf (envV A) 21 bd21 9 = L9 at e0 e1 e2 e3 e4 e5 e6 e7 e8 e9 es et h1 h2 h3 h4 h5 h6 h7 ⊢
    generalize lpOf (envV A) 21 bd21 = LP
    generalize evl (envV A) = E at e0 e1 e2 e3 e4 e5 e6 e7 e8 e9 es et h1 h2 h3 h4 h5 h6 h7 ⊢
    obtain ⟨aadd, asub, amul, arem, aquo, awr, ashr, aeq, alt, ale, aseq, aslt, acat, acut, asiz, aat, anle, aneq, afit⟩ := A
    simp only at hnle hneq
    subst hnle hneq
    try simp only at h1 h2 h3 h4 h5 h6 h7
    conv at e0 => lhs; cbv
    conv at e1 => lhs; cbv
    conv at e2 => lhs; cbv
    conv at e3 => lhs; cbv
    conv at e4 => lhs; cbv
    conv at e5 => lhs; cbv
    conv at e6 => lhs; cbv
    conv at e7 => lhs; cbv
    conv at e8 => lhs; cbv
    conv at e9 => lhs; cbv
    conv at es => lhs; cbv
    conv at et => lhs; cbv
    cbv
    rewrite [h1]
    cbv
    rewrite [es]
    cbv
    rewrite [et]
    cbv
    rewrite [e0]
    cbv
    rewrite [e1]
    cbv
    rewrite [e7]
    cbv
    rewrite [h4]
    cbv
    rewrite [e4]
    cbv
    rewrite [e6]
    cbv
    rewrite [h6]
    cbv
    rewrite [h2]
    cbv
    rewrite [e2]
    cbv
    rewrite [e3]
    cbv
    rewrite [e5]
    cbv
    rewrite [e8]
    cbv
    rewrite [e9]
    cbv
    rewrite [h5]
    cbv
    rewrite [h3]
    cbv
    rewrite [h7]
    cbv
  ·
    rw [lp_step (envV A) 21 (c0 := bd21) (lv := lvF21) rfl rfl]
    have hnle := hA.nleE; have hneq := hA.neqE
    rw [lp_split (lpOf (envV A) 21 bd21) 9]
    generalize lpOf (envV A) 21 bd21 9 = L9 at e0 e1 e2 e3 e4 e5 e6 e7 e8 e9 es et h1 h2 h3 h4 h5 h6 h7 ⊢
    generalize lpOf (envV A) 21 bd21 = LP
    generalize evl (envV A) = E at e0 e1 e2 e3 e4 e5 e6 e7 e8 e9 es et h1 h2 h3 h4 h5 h6 h7 ⊢
    obtain ⟨aadd, asub, amul, arem, aquo, awr, ashr, aeq, alt, ale, aseq, aslt, acat, acut, asiz, aat, anle, aneq, afit⟩ := A
    simp only at hnle hneq
    subst hnle hneq
    try simp only at h1 h2 h3 h4 h5 h6 h7
    conv at e0 => lhs; cbv
    conv at e1 => lhs; cbv
    conv at e2 => lhs; cbv
    conv at e3 => lhs; cbv
    conv at e4 => lhs; cbv
    conv at e5 => lhs; cbv
    conv at e6 => lhs; cbv
    conv at e7 => lhs; cbv
    conv at e8 => lhs; cbv
    conv at e9 => lhs; cbv
    conv at es => lhs; cbv
    conv at et => lhs; cbv
    cbv
    rewrite [h1]
    cbv
    rewrite [es]
    cbv
    rewrite [et]
    cbv
    rewrite [e0]
    cbv
    rewrite [e1]
    cbv
    rewrite [e7]
    cbv
    rewrite [h4]
    cbv
    rewrite [e4]
    cbv
    rewrite [e6]
    cbv
    rewrite [h6]
    cbv
    rewrite [h2]
    cbv
    rewrite [e2]
    cbv
    rewrite [e3]
    cbv
    rewrite [e5]
    cbv
    rewrite [e8]
    cbv
    rewrite [e9]
    cbv
    rewrite [h5]
    cbv
    rewrite [h3]
    cbv
    rewrite [h7]
    cbv
theorem lp_put_in_end (xs ss out : List AV) (p : Perm) (hp : p = .ro ∨ p = .imm) (n i t k m : Nat) (e1 : out.length = m)
    (h1 : A.lt (.ofNat k) (.ofNat t) = false) : lpOf (envV A) 21 bd21 9 (stI xs p n i ss t k out) = some (.code (.exit 2) (stIe xs p n i ss t k out)) := by
  unfold stI stIe
  rcases hp with rfl | rfl
  ·
    rw [lp_step (envV A) 21 (c0 := bd21) (lv := lvF21) rfl rfl]
    have hnle := hA.nleE; have hneq := hA.neqE
    generalize lpOf (envV A) 21 bd21 = LP
    generalize evl (envV A) = E at e1 h1 ⊢
    obtain ⟨aadd, asub, amul, arem, aquo, awr, ashr, aeq, alt, ale, aseq, aslt, acat, acut, asiz, aat, anle, aneq, afit⟩ := A
    simp only at hnle hneq
    subst hnle hneq
    try simp only at h1
    conv at e1 => lhs; cbv
    cbv
    rewrite [h1]
    cbv
  ·
    rw [lp_step (envV A) 21 (c0 := bd21) (lv := lvF21) rfl rfl]
    have hnle := hA.nleE; have hneq := hA.neqE
    generalize lpOf (envV A) 21 bd21 = LP
    generalize evl (envV A) = E at e1 h1 ⊢
    obtain ⟨aadd, asub, amul, arem, aquo, awr, ashr, aeq, alt, ale, aseq, aslt, acat, acut, asiz, aat, anle, aneq, afit⟩ := A
    simp only at hnle hneq
    subst hnle hneq
    try simp only at h1
    conv at e1 => lhs; cbv
    cbv
    rewrite [h1]
    cbv
section
variable (xs out out2 out3 : List AV) (p : Perm) (hp : p = .ro ∨ p = .imm) (o : Int) (a b : ByteArray) (n i c m : Nat)
include hp
theorem lp_put_2 {r : Option Res} (e0 : lget xs i = some (.agg [.s (.int .i64 o), .s (.string a), .s (.string b)])) (e1 : out.length = m) (e2 : out ++ [.s (.int .u8 (.ofNat c))] = out2) (e3 : xs.length = n) (e5 : Nat.beq m m = true) (e6 : Nat.ble (Nat.succ i) n = true)
    (h1 : A.lt (.ofNat i) (.ofNat n) = true) (h2 : evl (envV A) (.call 59 [.agg [.s (.int .i64 o), .s (.string a), .s (.string b)]] []) = some (.ret (.s (.bool true)) []))
    (h3 : A.wr .u8 o = .ofNat c) (h4 : evl (envV A) (.call 60 [.s (.int .i64 o)] []) = some (.ret (.s (.int .i64 2)) [])) (h6 : A.fit (Nat.succ m) 1 = true) (h7 : A.add .i64 (.ofNat i) 1 = .ofNat (Nat.succ i))
    (h8 : lpOf (envV A) 21 bd21 9 (stI xs p n i [.s (.string a), .s (.string b)] 2 0 out2) = some (.code (.exit 2) (stIe xs p n i [.s (.string a), .s (.string b)] 2 2 out3)))
    (h9 : lpOf (envV A) 21 bd21 3 (stP xs p n (Nat.succ i) out3) = r) : lpOf (envV A) 21 bd21 3 (stP xs p n i out) = r := by
  unfold stI stIe at h8
  unfold stP at h9 ⊢
  simp only [show Int.ofNat 0 = 0 from rfl] at h8
  rcases hp with rfl | rfl
  ·
    rw [lp_step (envV A) 21 (c0 := bd21) (lv := lvF21) rfl rfl]
    have hnle := hA.nleE; have hneq := hA.neqE
    rw [lp_split (lpOf (envV A) 21 bd21) 3]
    generalize lpOf (envV A) 21 bd21 3 = L3 at e0 e1 e2 e3 e5 e6 h1 h2 h3 h4 h6 h7 h8 h9 ⊢
    rw [lp_split (lpOf (envV A) 21 bd21) 9]
    generalize lpOf (envV A) 21 bd21 9 = L9 at e0 e1 e2 e3 e5 e6 h1 h2 h3 h4 h6 h7 h8 h9 ⊢
    generalize lpOf (envV A) 21 bd21 = LP
    generalize evl (envV A) = E at e0 e1 e2 e3 e5 e6 h1 h2 h3 h4 h6 h7 h8 h9 ⊢
    obtain ⟨aadd, asub, amul, arem, aquo, awr, ashr, aeq, alt, ale, aseq, aslt, acat, acut, asiz, aat, anle, aneq, afit⟩ := A
    simp only at hnle hneq
    subst hnle hneq
    try simp only at h1 h2 h3 h4 h6 h7 h8 h9
    conv at e0 => lhs; cbv
    conv at e1 => lhs; cbv
    conv at e2 => lhs; cbv
    conv at e3 => lhs; cbv
    conv at e5 => lhs; cbv
    conv at e6 => lhs; cbv
    cbv
    rewrite [h1]
    cbv
    rewrite [e0]
    cbv
    rewrite [h2]
    cbv
    rewrite [e1]
    cbv
    rewrite [e5]
    cbv
    rewrite [h3]
    cbv
    rewrite [e2]
    cbv
    rewrite [h6]
    cbv
    rewrite [h4]
    cbv
    rewrite [h8]
    cbv
    rewrite [h7]
    cbv
    rewrite [h9]
    cbv
  ·
    rw [lp_step (envV A) 21 (c0 := bd21) (lv := lvF21) rfl rfl]
    have hnle := hA.nleE; have hneq := hA.neqE
    rw [lp_split (lpOf (envV A) 21 bd21) 3]
    generalize lpOf (envV A) 21 bd21 3 = L3 at e0 e1 e2 e3 e5 e6 h1 h2 h3 h4 h6 h7 h8 h9 ⊢
    rw [lp_split (lpOf (envV A) 21 bd21) 9]
    generalize lpOf (envV A) 21 bd21 9 = L9 at e0 e1 e2 e3 e5 e6 h1 h2 h3 h4 h6 h7 h8 h9 ⊢
    generalize lpOf (envV A) 21 bd21 = LP
    generalize evl (envV A) = E at e0 e1 e2 e3 e5 e6 h1 h2 h3 h4 h6 h7 h8 h9 ⊢
    obtain ⟨aadd, asub, amul, arem, aquo, awr, ashr, aeq, alt, ale, aseq, aslt, acat, acut, asiz, aat, anle, aneq, afit⟩ := A
    simp only at hnle hneq
    subst hnle hneq
    try simp only at h1 h2 h3 h4 h6 h7 h8 h9
    conv at e0 => lhs; cbv
    conv at e1 => lhs; cbv
    conv at e2 => lhs; cbv
    conv at e3 => lhs; cbv
    conv at e5 => lhs; cbv
    conv at e6 => lhs; cbv
    cbv
    rewrite [h1]
    cbv
    rewrite [e0]
    cbv
    rewrite [h2]
    cbv
    rewrite [e1]
    cbv
    rewrite [e5]
    cbv
    rewrite [h3]
    cbv
    rewrite [e2]
    cbv
    rewrite [h6]
    cbv
    rewrite [h4]
    cbv
    rewrite [h8]
    cbv
    rewrite [h7]
    cbv
    rewrite [h9]
    cbv
theorem lp_put_1 {r : Option Res} (e0 : lget xs i = some (.agg [.s (.int .i64 o), .s (.string a), .s (.string b)])) (e1 : out.length = m) (e2 : out ++ [.s (.int .u8 (.ofNat c))] = out2) (e3 : xs.length = n) (e5 : Nat.beq m m = true) (e6 : Nat.ble (Nat.succ i) n = true)
    (h1 : A.lt (.ofNat i) (.ofNat n) = true) (h2 : evl (envV A) (.call 59 [.agg [.s (.int .i64 o), .s (.string a), .s (.string b)]] []) = some (.ret (.s (.bool true)) []))
    (h3 : A.wr .u8 o = .ofNat c) (h4 : evl (envV A) (.call 60 [.s (.int .i64 o)] []) = some (.ret (.s (.int .i64 1)) [])) (h6 : A.fit (Nat.succ m) 1 = true) (h7 : A.add .i64 (.ofNat i) 1 = .ofNat (Nat.succ i))
    (h8 : lpOf (envV A) 21 bd21 9 (stI xs p n i [.s (.string a)] 1 0 out2) = some (.code (.exit 2) (stIe xs p n i [.s (.string a)] 1 1 out3)))
    (h9 : lpOf (envV A) 21 bd21 3 (stP xs p n (Nat.succ i) out3) = r) : lpOf (envV A) 21 bd21 3 (stP xs p n i out) = r := by
  unfold stI stIe at h8
  unfold stP at h9 ⊢
  simp only [show Int.ofNat 0 = 0 from rfl] at h8
  rcases hp with rfl | rfl
  ·
    rw [lp_step (envV A) 21 (c0 := bd21) (lv := lvF21) rfl rfl]
    have hnle := hA.nleE; have hneq := hA.neqE
    rw [lp_split (lpOf (envV A) 21 bd21) 3]
    generalize lpOf (envV A) 21 bd21 3 = L3 at e0 e1 e2 e3 e5 e6 h1 h2 h3 h4 h6 h7 h8 h9 ⊢
    rw [lp_split (lpOf (envV A) 21 bd21) 9]
    generalize lpOf (envV A) 21 bd21 9 = L9 at e0 e1 e2 e3 e5 e6 h1 h2 h3 h4 h6 h7 h8 h9 ⊢
    generalize lpOf (envV A) 21 bd21 = LP
    generalize evl (envV A) = E at e0 e1 e2 e3 e5 e6 h1 h2 h3 h4 h6 h7 h8 h9 ⊢
    obtain ⟨aadd, asub, amul, arem, aquo, awr, ashr, aeq, alt, ale, aseq, aslt, acat, acut, asiz, aat, anle, aneq, afit⟩ := A
    simp only at hnle hneq
    subst hnle hneq
    try simp only at h1 h2 h3 h4 h6 h7 h8 h9
    conv at e0 => lhs; cbv
    conv at e1 => lhs; cbv
    conv at e2 => lhs; cbv
    conv at e3 => lhs; cbv
    conv at e5 => lhs; cbv
    conv at e6 => lhs; cbv
    cbv
    rewrite [h1]
    cbv
    rewrite [e0]
    cbv
    rewrite [h2]
    cbv
    rewrite [e1]
    cbv
    rewrite [e5]
    cbv
    rewrite [h3]
    cbv
    rewrite [e2]
    cbv
    rewrite [h6]
    cbv
    rewrite [h4]
    cbv
    rewrite [h8]
    cbv
    rewrite [h7]
    cbv
    rewrite [h9]
    cbv
  ·
    rw [lp_step (envV A) 21 (c0 := bd21) (lv := lvF21) rfl rfl]
    have hnle := hA.nleE; have hneq := hA.neqE
    rw [lp_split (lpOf (envV A) 21 bd21) 3]
    generalize lpOf (envV A) 21 bd21 3 = L3 at e0 e1 e2 e3 e5 e6 h1 h2 h3 h4 h6 h7 h8 h9 ⊢
    rw [lp_split (lpOf (envV A) 21 bd21) 9]
    generalize lpOf (envV A) 21 bd21 9 = L9 at e0 e1 e2 e3 e5 e6 h1 h2 h3 h4 h6 h7 h8 h9 ⊢
    generalize lpOf (envV A) 21 bd21 = LP
    generalize evl (envV A) = E at e0 e1 e2 e3 e5 e6 h1 h2 h3 h4 h6 h7 h8 h9 ⊢
    obtain ⟨aadd, asub, amul, arem, aquo, awr, ashr, aeq, alt, ale, aseq, aslt, acat, acut, asiz, aat, anle, aneq, afit⟩ := A
    simp only at hnle hneq
    subst hnle hneq
    try simp only at h1 h2 h3 h4 h6 h7 h8 h9
    conv at e0 => lhs; cbv
    conv at e1 => lhs; cbv
    conv at e2 => lhs; cbv
    conv at e3 => lhs; cbv
    conv at e5 => lhs; cbv
    conv at e6 => lhs; cbv
    cbv
    rewrite [h1]
    cbv
    rewrite [e0]
    cbv
    rewrite [h2]
    cbv
    rewrite [e1]
    cbv
    rewrite [e5]
    cbv
    rewrite [h3]
    cbv
    rewrite [e2]
    cbv
    rewrite [h6]
    cbv
    rewrite [h4]
    cbv
    rewrite [h8]
    cbv
    rewrite [h7]
    cbv
    rewrite [h9]
    cbv
theorem lp_put_0 {r : Option Res} (e0 : lget xs i = some (.agg [.s (.int .i64 o), .s (.string a), .s (.string b)])) (e1 : out.length = m) (e2 : out ++ [.s (.int .u8 (.ofNat c))] = out2) (e3 : xs.length = n) (e5 : Nat.beq m m = true) (e6 : Nat.ble (Nat.succ i) n = true)
    (h1 : A.lt (.ofNat i) (.ofNat n) = true) (h2 : evl (envV A) (.call 59 [.agg [.s (.int .i64 o), .s (.string a), .s (.string b)]] []) = some (.ret (.s (.bool true)) []))
    (h3 : A.wr .u8 o = .ofNat c) (h4 : evl (envV A) (.call 60 [.s (.int .i64 o)] []) = some (.ret (.s (.int .i64 0)) [])) (h6 : A.fit (Nat.succ m) 1 = true) (h7 : A.add .i64 (.ofNat i) 1 = .ofNat (Nat.succ i))
    (h8 : lpOf (envV A) 21 bd21 9 { n := 55, k := 0, fr := [(0, .sl 3 xs p), (4, .sl 1 out2 .full), (9, .sl 3 xs p), (10, .s (.int .i64 (.ofNat n))), (11, .s (.int .i64 (.ofNat i))), (33, .sl 1 [] .full), (34, .s (.int .i64 (.ofNat 0))), (35, .s (.int .i64 0))], O := [] } = some (.code (.exit 2) (stIe xs p n i [] 0 0 out2)))
    (h9 : lpOf (envV A) 21 bd21 3 (stP xs p n (Nat.succ i) out2) = r) : lpOf (envV A) 21 bd21 3 (stP xs p n i out) = r := by
  unfold stIe at h8
  unfold stP at h9 ⊢
  rcases hp with rfl | rfl
  ·
    rw [lp_step (envV A) 21 (c0 := bd21) (lv := lvF21) rfl rfl]
    have hnle := hA.nleE; have hneq := hA.neqE
    rw [lp_split (lpOf (envV A) 21 bd21) 3]
    generalize lpOf (envV A) 21 bd21 3 = L3 at e0 e1 e2 e3 e5 e6 h1 h2 h3 h4 h6 h7 h8 h9 ⊢
    rw [lp_split (lpOf (envV A) 21 bd21) 9]
    generalize lpOf (envV A) 21 bd21 9 = L9 at e0 e1 e2 e3 e5 e6 h1 h2 h3 h4 h6 h7 h8 h9 ⊢
    generalize lpOf (envV A) 21 bd21 = LP
    generalize evl (envV A) = E at e0 e1 e2 e3 e5 e6 h1 h2 h3 h4 h6 h7 h8 h9 ⊢
    obtain ⟨aadd, asub, amul, arem, aquo, awr, ashr, aeq, alt, ale, aseq, aslt, acat, acut, asiz, aat, anle, aneq, afit⟩ := A
    simp only at hnle hneq
    subst hnle hneq
    try simp only at h1 h2 h3 h4 h6 h7 h8 h9
    conv at e0 => lhs; cbv
    conv at e1 => lhs; cbv
    conv at e2 => lhs; cbv
    conv at e3 => lhs; cbv
    conv at e5 => lhs; cbv
    conv at e6 => lhs; cbv
    cbv
    rewrite [h1]
    cbv
    rewrite [e0]
    cbv
    rewrite [h2]
    cbv
    rewrite [e1]
    cbv
    rewrite [e5]
    cbv
    rewrite [h3]
    cbv
    rewrite [e2]
    cbv
    rewrite [h6]
    cbv
    rewrite [h4]
    cbv
    rewrite [h8]
    cbv
    rewrite [h7]
    cbv
    rewrite [h9]
    cbv
  ·
    rw [lp_step (envV A) 21 (c0 := bd21) (lv := lvF21) rfl rfl]
    have hnle := hA.nleE; have hneq := hA.neqE
    rw [lp_split (lpOf (envV A) 21 bd21) 3]
    generalize lpOf (envV A) 21 bd21 3 = L3 at e0 e1 e2 e3 e5 e6 h1 h2 h3 h4 h6 h7 h8 h9 ⊢
    rw [lp_split (lpOf (envV A) 21 bd21) 9]
    generalize lpOf (envV A) 21 bd21 9 = L9 at e0 e1 e2 e3 e5 e6 h1 h2 h3 h4 h6 h7 h8 h9 ⊢
    generalize lpOf (envV A) 21 bd21 = LP
    generalize evl (envV A) = E at e0 e1 e2 e3 e5 e6 h1 h2 h3 h4 h6 h7 h8 h9 ⊢
    obtain ⟨aadd, asub, amul, arem, aquo, awr, ashr, aeq, alt, ale, aseq, aslt, acat, acut, asiz, aat, anle, aneq, afit⟩ := A
    simp only at hnle hneq
    subst hnle hneq
    try simp only at h1 h2 h3 h4 h6 h7 h8 h9
    conv at e0 => lhs; cbv
    conv at e1 => lhs; cbv
    conv at e2 => lhs; cbv
    conv at e3 => lhs; cbv
    conv at e5 => lhs; cbv
    conv at e6 => lhs; cbv
    cbv
    rewrite [h1]
    cbv
    rewrite [e0]
    cbv
    rewrite [h2]
    cbv
    rewrite [e1]
    cbv
    rewrite [e5]
    cbv
    rewrite [h3]
    cbv
    rewrite [e2]
    cbv
    rewrite [h6]
    cbv
    rewrite [h4]
    cbv
    rewrite [h8]
    cbv
    rewrite [h7]
    cbv
    rewrite [h9]
    cbv
theorem lp_put_no (e0 : lget xs i = some (.agg [.s (.int .i64 o), .s (.string a), .s (.string b)])) (e3 : xs.length = n) (e6 : Nat.ble (Nat.succ i) n = true)
    (h1 : A.lt (.ofNat i) (.ofNat n) = true) (h2 : evl (envV A) (.call 59 [.agg [.s (.int .i64 o), .s (.string a), .s (.string b)]] []) = some (.ret (.s (.bool false)) [])) :
    lpOf (envV A) 21 bd21 3 (stP xs p n i out) = some (.code .ret { n := 55, k := 0, fr := [(2, .sl 1 [] .full), (3, .s (.iface 39 (.int .i64 1)))], O := [] }) := by
  unfold stP
  rcases hp with rfl | rfl
  ·
    rw [lp_step (envV A) 21 (c0 := bd21) (lv := lvF21) rfl rfl]
    have hnle := hA.nleE; have hneq := hA.neqE
    generalize lpOf (envV A) 21 bd21 = LP
    generalize evl (envV A) = E at e0 e3 e6 h1 h2 ⊢
    obtain ⟨aadd, asub, amul, arem, aquo, awr, ashr, aeq, alt, ale, aseq, aslt, acat, acut, asiz, aat, anle, aneq, afit⟩ := A
    simp only at hnle hneq
    subst hnle hneq
    try simp only at h1 h2
    conv at e0 => lhs; cbv
    conv at e3 => lhs; cbv
    conv at e6 => lhs; cbv
    cbv
    rewrite [h1]
    cbv
    rewrite [e0]
    cbv
    rewrite [h2]
    cbv
  ·
    rw [lp_step (envV A) 21 (c0 := bd21) (lv := lvF21) rfl rfl]
    have hnle := hA.nleE; have hneq := hA.neqE
    generalize lpOf (envV A) 21 bd21 = LP
    generalize evl (envV A) = E at e0 e3 e6 h1 h2 ⊢
    obtain ⟨aadd, asub, amul, arem, aquo, awr, ashr, aeq, alt, ale, aseq, aslt, acat, acut, asiz, aat, anle, aneq, afit⟩ := A
    simp only at hnle hneq
    subst hnle hneq
    try simp only at h1 h2
    conv at e0 => lhs; cbv
    conv at e3 => lhs; cbv
    conv at e6 => lhs; cbv
    cbv
    rewrite [h1]
    cbv
    rewrite [e0]
    cbv
    rewrite [h2]
    cbv
theorem lp_put_end (e1 : out.length = m) (h1 : A.lt (.ofNat i) (.ofNat n) = false) :
    lpOf (envV A) 21 bd21 3 (stP xs p n i out) = some (.code (.exit 0) { n := 55, k := 0, fr := [(0, .sl 3 xs p), (4, .sl 1 out .full), (9, .sl 3 xs p), (10, .s (.int .i64 (.ofNat n))), (11, .s (.int .i64 (.ofNat i))), (12, .s (.bool false))], O := [] }) := by
  unfold stP
  rcases hp with rfl | rfl
  ·
    rw [lp_step (envV A) 21 (c0 := bd21) (lv := lvF21) rfl rfl]
    have hnle := hA.nleE; have hneq := hA.neqE
    generalize lpOf (envV A) 21 bd21 = LP
    generalize evl (envV A) = E at e1 h1 ⊢
    obtain ⟨aadd, asub, amul, arem, aquo, awr, ashr, aeq, alt, ale, aseq, aslt, acat, acut, asiz, aat, anle, aneq, afit⟩ := A
    simp only at hnle hneq
    subst hnle hneq
    try simp only at h1
    conv at e1 => lhs; cbv
    cbv
    rewrite [h1]
    cbv
  ·
    rw [lp_step (envV A) 21 (c0 := bd21) (lv := lvF21) rfl rfl]
    have hnle := hA.nleE; have hneq := hA.neqE
    generalize lpOf (envV A) 21 bd21 = LP
    generalize evl (envV A) = E at e1 h1 ⊢
    obtain ⟨aadd, asub, amul, arem, aquo, awr, ashr, aeq, alt, ale, aseq, aslt, acat, acut, asiz, aat, anle, aneq, afit⟩ := A
    simp only at hnle hneq
    subst hnle hneq
    try simp only at h1
    conv at e1 => lhs; cbv
    cbv
    rewrite [h1]
    cbv
end
theorem eq_code_Put_no (xs : List AV) (p : Perm) (hp : p = .ro ∨ p = .imm) (n : Nat) (e0 : xs.length = n)
    (h1 : lpOf (envV A) 21 bd21 3 (stP xs p n 0 []) = some (.code .ret { n := 55, k := 0, fr := [(2, .sl 1 [] .full), (3, .s (.iface 39 (.int .i64 1)))], O := [] })) :
    evl (envV A) (.call 21 [.sl 3 xs p] []) = some (.ret (.tup [.sl 1 [] .full, .s (.iface 39 (.int .i64 1))]) []) := by
  unfold stP at h1
  simp only [show Int.ofNat 0 = 0 from rfl] at h1
  rcases hp with rfl | rfl
  ·
    rw [evl_fn (envV A) 21 _ _ (fn := Try.f21) (c := bd21) (lv := lvF21) rfl rfl rfl rfl rfl rfl]
    have hnle := hA.nleE; have hneq := hA.neqE
    rw [lp_split (lpOf (envV A) 21 bd21) 3]
    generalize lpOf (envV A) 21 bd21 3 = L3 at e0 h1 ⊢
    generalize lpOf (envV A) 21 bd21 = LP
    generalize evl (envV A) = E at e0 h1 ⊢
    obtain ⟨aadd, asub, amul, arem, aquo, awr, ashr, aeq, alt, ale, aseq, aslt, acat, acut, asiz, aat, anle, aneq, afit⟩ := A
    simp only at hnle hneq
    subst hnle hneq
    try simp only at h1
    conv at e0 => lhs; cbv
    cbv
    rewrite [e0]
    cbv
    rewrite [h1]
    cbv
  ·
    rw [evl_fn (envV A) 21 _ _ (fn := Try.f21) (c := bd21) (lv := lvF21) rfl rfl rfl rfl rfl rfl]
    have hnle := hA.nleE; have hneq := hA.neqE
    rw [lp_split (lpOf (envV A) 21 bd21) 3]
    generalize lpOf (envV A) 21 bd21 3 = L3 at e0 h1 ⊢
    generalize lpOf (envV A) 21 bd21 = LP
    generalize evl (envV A) = E at e0 h1 ⊢
    obtain ⟨aadd, asub, amul, arem, aquo, awr, ashr, aeq, alt, ale, aseq, aslt, acat, acut, asiz, aat, anle, aneq, afit⟩ := A
    simp only at hnle hneq
    subst hnle hneq
    try simp only at h1
    conv at e0 => lhs; cbv
    cbv
    rewrite [e0]
    cbv
    rewrite [h1]
    cbv
theorem eq_code_Put (xs out : List AV) (p : Perm) (hp : p = .ro ∨ p = .imm) (n m : Nat) (e0 : xs.length = n) (e1 : out.length = m) (e2 : Nat.ble m m = true) (e3 : out.take m = out)
    (h1 : lpOf (envV A) 21 bd21 3 (stP xs p n 0 []) = some (.code (.exit 0) { n := 55, k := 0, fr := [(0, .sl 3 xs p), (4, .sl 1 out .full), (9, .sl 3 xs p), (10, .s (.int .i64 (.ofNat n))), (11, .s (.int .i64 (.ofNat n))), (12, .s (.bool false))], O := [] })) :
    evl (envV A) (.call 21 [.sl 3 xs p] []) = some (.ret (bif A.lt 120 (.ofNat n) then .tup [.sl 1 [] .full, .s (.iface 39 (.int .i64 13))] else .tup [.sl 1 out .full, .s .nilIface]) []) := by
  unfold stP at h1
  simp only [show Int.ofNat 0 = 0 from rfl] at h1
  rcases hp with rfl | rfl
  ·
    rw [evl_fn (envV A) 21 _ _ (fn := Try.f21) (c := bd21) (lv := lvF21) rfl rfl rfl rfl rfl rfl]
    have hnle := hA.nleE; have hneq := hA.neqE
    rw [lp_split (lpOf (envV A) 21 bd21) 3]
    generalize lpOf (envV A) 21 bd21 3 = L3 at e0 e1 e2 e3 h1 ⊢
    generalize lpOf (envV A) 21 bd21 = LP
    generalize evl (envV A) = E at e0 e1 e2 e3 h1 ⊢
    obtain ⟨aadd, asub, amul, arem, aquo, awr, ashr, aeq, alt, ale, aseq, aslt, acat, acut, asiz, aat, anle, aneq, afit⟩ := A
    simp only at hnle hneq
    subst hnle hneq
    try simp only at h1
    conv at e0 => lhs; cbv
    conv at e1 => lhs; cbv
    conv at e2 => lhs; cbv
    conv at e3 => lhs; cbv
    cbv
    rewrite [e0]
    cbv
    rewrite [h1]
    cbv
    rewrite [e0]
    cbv
    cases c1 : alt 120 (Int.ofNat n)
    · cbv
      rewrite [e1]
      cbv
      rewrite [e2]
      cbv
      rewrite [e3]
      cbv
    · cbv
  ·
    rw [evl_fn (envV A) 21 _ _ (fn := Try.f21) (c := bd21) (lv := lvF21) rfl rfl rfl rfl rfl rfl]
    have hnle := hA.nleE; have hneq := hA.neqE
    rw [lp_split (lpOf (envV A) 21 bd21) 3]
    generalize lpOf (envV A) 21 bd21 3 = L3 at e0 e1 e2 e3 h1 ⊢
    generalize lpOf (envV A) 21 bd21 = LP
    generalize evl (envV A) = E at e0 e1 e2 e3 h1 ⊢
    obtain ⟨aadd, asub, amul, arem, aquo, awr, ashr, aeq, alt, ale, aseq, aslt, acat, acut, asiz, aat, anle, aneq, afit⟩ := A
    simp only at hnle hneq
    subst hnle hneq
    try simp only at h1
    conv at e0 => lhs; cbv
    conv at e1 => lhs; cbv
    conv at e2 => lhs; cbv
    conv at e3 => lhs; cbv
    cbv
    rewrite [e0]
    cbv
    rewrite [h1]
    cbv
    rewrite [e0]
    cbv
    cases c1 : alt 120 (Int.ofNat n)
    · cbv
      rewrite [e1]
      cbv
      rewrite [e2]
      cbv
      rewrite [e3]
      cbv
    · cbv
end
end Go.Va
