/- The functions that the statement reaches, by equations: no statement of its own. -/
import Derived.Test.YtmklimlepgiffabEq10
set_option linter.unusedVariables false
set_option linter.unusedSimpArgs false
set_option linter.unusedSectionVars false
namespace Go.Va
open Go.Proofs
set_option maxRecDepth 100000
set_option maxHeartbeats 4000000
def skA (o : Int) : AV := AV.agg [.s (.int .i64 o), .s (.string ⟨#[]⟩), .s (.string ⟨#[]⟩)]
def stK (zs os : List AV) (i : Nat) : St := { n := 119, k := 0, fr := [(7, .s (.bool true)), (16, .sl 3 zs .full), (17, .sl 1 os .full), (18, .s (.int .i64 (.ofNat i)))], O := [] }
def stKe (zs os : List AV) (i : Nat) : St := { n := 119, k := 0, fr := [(7, .s (.bool true)), (16, .sl 3 zs .full), (17, .sl 1 os .full), (18, .s (.int .i64 (.ofNat i))), (88, .s (.bool false))], O := [] }
section
variable (A : Ar) (hA : ArOk A)
include hA
theorem lp_cb_on (zs zs2 os os2 : List AV) (n m i : Nat) {r : Option Res} (e0 : zs.length = n) (e1 : os.length = m) (e2 : lset zs i (skA 7) = zs2) (e3 : os ++ [.s (.int .u8 7)] = os2) (e4 : lget zs i = some (skA 0))
    (e5 : Nat.ble (Nat.succ i) n = true) (e6 : Nat.beq m m = true) (e7 : 0 + i = i) (h1 : A.lt (.ofNat i) (.ofNat n) = true) (h2 : A.fit (Nat.succ m) 1 = true) (h3 : A.add .i64 (.ofNat i) 1 = .ofNat (Nat.succ i))
    (hr : lpOf (envV A) 4 bd4 17 (stK zs2 os2 (Nat.succ i)) = r) : lpOf (envV A) 4 bd4 17 (stK zs os i) = r := by
  unfold stK at hr ⊢
  unfold skA at e2 e4
  rw [lp_step (envV A) 4 (c0 := bd4) (lv := lvF4) rfl rfl]
  have hnle := hA.nleE; have hneq := hA.neqE
  have klt := hA.lt; have kle := hA.le; have keq := hA.eq; have knle := hA.nle; have kneq := hA.neq
  rw [lp_split (lpOf (envV A) 4 bd4) 17]
  generalize lpOf (envV A) 4 bd4 17 = L17 at e0 e1 e2 e3 e4 e5 e6 e7 h1 h2 h3 hr ⊢
  generalize lpOf (envV A) 4 bd4 = LP
  generalize evl (envV A) = E at e0 e1 e2 e3 e4 e5 e6 e7 h1 h2 h3 hr ⊢
  obtain ⟨aadd, asub, amul, arem, aquo, awr, ashr, aeq, alt, ale, aseq, aslt, acat, acut, asiz, aat, anle, aneq, afit⟩ := A
  simp only at hnle hneq
  subst hnle hneq
  simp only at klt kle keq knle kneq
  try simp only at h1 h2 h3 hr
  conv at e0 => lhs; cbv
  conv at e1 => lhs; cbv
  conv at e2 => lhs; cbv
  conv at e3 => lhs; cbv
  conv at e4 => lhs; cbv
  conv at e5 => lhs; cbv
  conv at e6 => lhs; cbv
  conv at e7 => lhs; cbv
  cbv
  rewrite [e0]
  cbv
  rewrite [h1]
  cbv
  rewrite [e0]
  cbv
  rewrite [e5]
  cbv
  rewrite [e7]
  cbv
  rewrite [e4]
  cbv
  rewrite [e1]
  cbv
  rewrite [e2]
  cbv
  rewrite [e3]
  cbv
  rewrite [e6]
  cbv
  rewrite [h2]
  cbv
  rewrite [h3]
  cbv
  rewrite [hr]
  cbv
theorem lp_cb_end (zs os : List AV) (n m i : Nat) (e0 : zs.length = n) (e1 : os.length = m) (h1 : A.lt (.ofNat i) (.ofNat n) = false) :
    lpOf (envV A) 4 bd4 17 (stK zs os i) = some (.code (.exit 0) (stKe zs os i)) := by
  unfold stK stKe
  rw [lp_step (envV A) 4 (c0 := bd4) (lv := lvF4) rfl rfl]
  have hnle := hA.nleE; have hneq := hA.neqE
  generalize lpOf (envV A) 4 bd4 = LP
  generalize evl (envV A) = E at e0 e1 h1 ⊢
  obtain ⟨aadd, asub, amul, arem, aquo, awr, ashr, aeq, alt, ale, aseq, aslt, acat, acut, asiz, aat, anle, aneq, afit⟩ := A
  simp only at hnle hneq
  subst hnle hneq
  try simp only at h1
  conv at e0 => lhs; cbv
  conv at e1 => lhs; cbv
  cbv
  rewrite [e0]
  cbv
  rewrite [h1]
  cbv
section
variable (xs ys : List AV) (n m : Nat) (k : Int) (e0 : xs.length = n) (e1 : ys.length = m) (h1 : evl (envV A) (.call 15 [] []) = some (.ret (.s (.bool true)) []))
include h1 
theorem eq_cb_few (h2 : evl (envV A) (.call 20 [.sl 3 xs .imm] []) = some (.ret (.s (.int .i64 0)) [])) :
    evl (envV A) (.call 4 [.sl 3 xs .imm, .sl 1 ys .imm, .s (.int .i64 k)] []) = some (.ret (.s (.bool true)) []) := by
  rw [evl_fn (envV A) 4 _ _ (fn := Try.f4) (c := bd4) (lv := lvF4) rfl rfl rfl rfl rfl rfl]
  have hnle := hA.nleE; have hneq := hA.neqE
  have klt := hA.lt; have kle := hA.le; have keq := hA.eq; have knle := hA.nle; have kneq := hA.neq
  generalize lpOf (envV A) 4 bd4 = LP
  generalize evl (envV A) = E at h1 h2 ⊢
  obtain ⟨aadd, asub, amul, arem, aquo, awr, ashr, aeq, alt, ale, aseq, aslt, acat, acut, asiz, aat, anle, aneq, afit⟩ := A
  simp only at hnle hneq
  subst hnle hneq
  simp only at klt kle keq knle kneq
  try simp only at h1 h2
  cbv
  rewrite [h1]
  cbv
  rewrite [h2]
  cbv
  rewrite [keq (0) (0)]
  cbv
include e0 e1
theorem eq_cb_let (h2 : evl (envV A) (.call 20 [.sl 3 xs .imm] []) = some (.ret (.s (.int .i64 1)) [])) (h3 : (A.lt 3000 (.ofNat m) || (A.lt k 1 || A.lt 20 k)) = true) :
    evl (envV A) (.call 4 [.sl 3 xs .imm, .sl 1 ys .imm, .s (.int .i64 k)] []) = some (.ret (.s (.bool true)) []) := by
  have klt := hA.lt
  cases h4 : A.lt 3000 (.ofNat m) with
  | true =>
    rw [evl_fn (envV A) 4 _ _ (fn := Try.f4) (c := bd4) (lv := lvF4) rfl rfl rfl rfl rfl rfl]
    have hnle := hA.nleE; have hneq := hA.neqE
    have klt := hA.lt; have kle := hA.le; have keq := hA.eq; have knle := hA.nle; have kneq := hA.neq
    generalize lpOf (envV A) 4 bd4 = LP
    generalize evl (envV A) = E at e0 e1 h1 h2 h4 ⊢
    obtain ⟨aadd, asub, amul, arem, aquo, awr, ashr, aeq, alt, ale, aseq, aslt, acat, acut, asiz, aat, anle, aneq, afit⟩ := A
    simp only at hnle hneq
    subst hnle hneq
    simp only at klt kle keq knle kneq
    try simp only at h1 h2 h4
    conv at e0 => lhs; cbv
    conv at e1 => lhs; cbv
    cbv
    rewrite [h1]
    cbv
    rewrite [h2]
    cbv
    rewrite [keq (1) (0)]
    cbv
    rewrite [e1]
    cbv
    rewrite [h4]
    cbv
  | false =>
    cases h5 : A.lt k 1 with
    | true =>
      rw [evl_fn (envV A) 4 _ _ (fn := Try.f4) (c := bd4) (lv := lvF4) rfl rfl rfl rfl rfl rfl]
      have hnle := hA.nleE; have hneq := hA.neqE
      have klt := hA.lt; have kle := hA.le; have keq := hA.eq; have knle := hA.nle; have kneq := hA.neq
      generalize lpOf (envV A) 4 bd4 = LP
      generalize evl (envV A) = E at e0 e1 h1 h2 h4 h5 ⊢
      obtain ⟨aadd, asub, amul, arem, aquo, awr, ashr, aeq, alt, ale, aseq, aslt, acat, acut, asiz, aat, anle, aneq, afit⟩ := A
      simp only at hnle hneq
      subst hnle hneq
      simp only at klt kle keq knle kneq
      try simp only at h1 h2 h4 h5
      conv at e0 => lhs; cbv
      conv at e1 => lhs; cbv
      cbv
      rewrite [h1]
      cbv
      rewrite [h2]
      cbv
      rewrite [keq (1) (0)]
      cbv
      rewrite [e1]
      cbv
      rewrite [h4]
      cbv
      rewrite [h5]
      cbv
    | false =>
      have h6 : A.lt 20 k = true := by rw [h4, h5] at h3; exact h3
      rw [evl_fn (envV A) 4 _ _ (fn := Try.f4) (c := bd4) (lv := lvF4) rfl rfl rfl rfl rfl rfl]
      have hnle := hA.nleE; have hneq := hA.neqE
      have klt := hA.lt; have kle := hA.le; have keq := hA.eq; have knle := hA.nle; have kneq := hA.neq
      generalize lpOf (envV A) 4 bd4 = LP
      generalize evl (envV A) = E at e0 e1 h1 h2 h4 h5 h6 ⊢
      obtain ⟨aadd, asub, amul, arem, aquo, awr, ashr, aeq, alt, ale, aseq, aslt, acat, acut, asiz, aat, anle, aneq, afit⟩ := A
      simp only at hnle hneq
      subst hnle hneq
      simp only at klt kle keq knle kneq
      try simp only at h1 h2 h4 h5 h6
      conv at e0 => lhs; cbv
      conv at e1 => lhs; cbv
      cbv
      rewrite [h1]
      cbv
      rewrite [h2]
      cbv
      rewrite [keq (1) (0)]
      cbv
      rewrite [e1]
      cbv
      rewrite [h4]
      cbv
      rewrite [h5]
      cbv
      rewrite [h6]
      cbv
section
variable (zs zs2 os2 : List AV) (nn j : Nat) (h2 : evl (envV A) (.call 20 [.sl 3 xs .imm] []) = some (.ret (.s (.int .i64 1)) [])) (h3 : A.lt 3000 (.ofNat m) = false) (h4 : A.lt k 1 = false) (h5 : A.lt 20 k = false)
  (e2 : List.replicate nn (skA 0) = zs) (e3 : Nat.beq nn nn = true) (e4 : zs2.length = nn) (e5 : 0 + nn = nn) (e6 : lcut zs2 0 nn = zs2) (e7 : Nat.ble nn nn = true) (e8 : lcut os2 0 nn = os2) (e9 : os2.length = nn) (h8 : A.add .i64 120 k = .ofNat nn) (h9 : A.fit nn 40 = true)
  (h10 : lpOf (envV A) 4 bd4 17 { n := 119, k := 0, fr := [(7, .s (.bool true)), (16, .sl 3 zs .full), (17, .sl 1 [] .full), (18, .s (.int .i64 0))], O := [] } = some (.code (.exit 0) (stKe zs2 os2 j)))
  (h11 : evl (envV A) (.call 21 [.sl 3 zs2 .ro] []) = some (.ret (.tup [.sl 1 [] .full, .s (.iface 39 (.int .i64 13))]) []))
  (h12 : evl (envV A) (.call 16 [.sl 1 os2 .imm] []) = some (.ret (.tup [.sl 3 [] .full, .s (.iface 39 (.int .i64 13))]) []))
include h2 h3 h4 h5 e2 e3 e4 e5 e6 e7 e8 e9 h8 h9 h10 h11 h12
theorem eq_cb_no_no (a c : Int) (h6 : evl (envV A) (.call 21 [.sl 3 xs .imm] []) = some (.ret (.tup [.sl 1 [] .full, .s (.iface 39 (.int .i64 a))]) []))
    (h7 : evl (envV A) (.call 16 [.sl 1 ys .imm] []) = some (.ret (.tup [.sl 3 [] .full, .s (.iface 39 (.int .i64 c))]) [])) :
    evl (envV A) (.call 4 [.sl 3 xs .imm, .sl 1 ys .imm, .s (.int .i64 k)] []) = some (.ret (.s (.bool true)) []) := by
  unfold stKe at h10
  unfold skA at e2
  rw [evl_fn (envV A) 4 _ _ (fn := Try.f4) (c := bd4) (lv := lvF4) rfl rfl rfl rfl rfl rfl]
  have hnle := hA.nleE; have hneq := hA.neqE
  have klt := hA.lt; have kle := hA.le; have keq := hA.eq; have knle := hA.nle; have kneq := hA.neq
  rw [lp_split (lpOf (envV A) 4 bd4) 17]
  generalize lpOf (envV A) 4 bd4 17 = L17 at e0 e1 h1 h2 h3 h4 h5 e2 e3 e4 e5 e6 e7 e8 e9 h8 h9 h10 h11 h12 h6 h7 ⊢
  generalize lpOf (envV A) 4 bd4 = LP
  generalize evl (envV A) = E at e0 e1 h1 h2 h3 h4 h5 e2 e3 e4 e5 e6 e7 e8 e9 h8 h9 h10 h11 h12 h6 h7 ⊢
  obtain ⟨aadd, asub, amul, arem, aquo, awr, ashr, aeq, alt, ale, aseq, aslt, acat, acut, asiz, aat, anle, aneq, afit⟩ := A
  simp only at hnle hneq
  subst hnle hneq
  simp only at klt kle keq knle kneq
  try simp only at h1 h2 h3 h4 h5 h8 h9 h10 h11 h12 h6 h7
  conv at e0 => lhs; cbv
  conv at e1 => lhs; cbv
  conv at e2 => lhs; cbv
  conv at e3 => lhs; cbv
  conv at e4 => lhs; cbv
  conv at e5 => lhs; cbv
  conv at e6 => lhs; cbv
  conv at e7 => lhs; cbv
  conv at e8 => lhs; cbv
  conv at e9 => lhs; cbv
  cbv
  rewrite [h1]
  cbv
  rewrite [h2]
  cbv
  rewrite [keq (1) (0)]
  cbv
  rewrite [e1]
  cbv
  rewrite [h3]
  cbv
  rewrite [h4]
  cbv
  rewrite [h5]
  cbv
  rewrite [h6]
  cbv
  rewrite [h7]
  cbv
  rewrite [h8]
  cbv
  rewrite [e2]
  cbv
  rewrite [e3]
  cbv
  rewrite [h9]
  cbv
  rewrite [h10]
  cbv
  rewrite [e4]
  cbv
  rewrite [e5]
  cbv
  rewrite [e6]
  cbv
  rewrite [e7]
  cbv
  rewrite [h11]
  cbv
  rewrite [e9]
  cbv
  rewrite [e5]
  cbv
  rewrite [e7]
  cbv
  rewrite [e8]
  cbv
  rewrite [h12]
  cbv
  rewrite [keq (13) (13)]
  cbv
  rewrite [keq (13) (13)]
  cbv
theorem eq_cb_no_ok (a : Int) (ps : List AV) (bb : List UInt8) (w : Nat) (ew : ps.length = w) (eu : 0 + w = w) (ev : lcut ps 0 w = ps) (ex : Nat.ble w w = true) (ey : bytesOf ys = some bb) (ez : 0 + m = m) (ea : Nat.ble m m = true) (eb : lcut ys 0 m = ys) (h13 : A.seq ⟨⟨bb⟩⟩ ⟨⟨bb⟩⟩ = true) (h6 : evl (envV A) (.call 21 [.sl 3 xs .imm] []) = some (.ret (.tup [.sl 1 [] .full, .s (.iface 39 (.int .i64 a))]) []))
    (h7 : evl (envV A) (.call 16 [.sl 1 ys .imm] []) = some (.ret (.tup [.sl 3 ps .full, .s .nilIface]) [])) (h14 : evl (envV A) (.call 21 [.sl 3 ps .ro] []) = some (.ret (.tup [.sl 1 ys .full, .s .nilIface]) [])) :
    evl (envV A) (.call 4 [.sl 3 xs .imm, .sl 1 ys .imm, .s (.int .i64 k)] []) = some (.ret (.s (.bool true)) []) := by
  unfold stKe at h10
  unfold skA at e2
  rw [evl_fn (envV A) 4 _ _ (fn := Try.f4) (c := bd4) (lv := lvF4) rfl rfl rfl rfl rfl rfl]
  have hnle := hA.nleE; have hneq := hA.neqE
  have klt := hA.lt; have kle := hA.le; have keq := hA.eq; have knle := hA.nle; have kneq := hA.neq
  rw [lp_split (lpOf (envV A) 4 bd4) 17]
  generalize lpOf (envV A) 4 bd4 17 = L17 at e0 e1 h1 h2 h3 h4 h5 e2 e3 e4 e5 e6 e7 e8 e9 h8 h9 h10 h11 h12 ew eu ev ex ey ez ea eb h13 h14 h6 h7 ⊢
  generalize lpOf (envV A) 4 bd4 = LP
  generalize evl (envV A) = E at e0 e1 h1 h2 h3 h4 h5 e2 e3 e4 e5 e6 e7 e8 e9 h8 h9 h10 h11 h12 ew eu ev ex ey ez ea eb h13 h14 h6 h7 ⊢
  obtain ⟨aadd, asub, amul, arem, aquo, awr, ashr, aeq, alt, ale, aseq, aslt, acat, acut, asiz, aat, anle, aneq, afit⟩ := A
  simp only at hnle hneq
  subst hnle hneq
  simp only at klt kle keq knle kneq
  try simp only at h1 h2 h3 h4 h5 h8 h9 h10 h11 h12 h13 h14 h6 h7
  conv at e0 => lhs; cbv
  conv at e1 => lhs; cbv
  conv at e2 => lhs; cbv
  conv at e3 => lhs; cbv
  conv at e4 => lhs; cbv
  conv at e5 => lhs; cbv
  conv at e6 => lhs; cbv
  conv at e7 => lhs; cbv
  conv at e8 => lhs; cbv
  conv at e9 => lhs; cbv
  conv at ew => lhs; cbv
  conv at eu => lhs; cbv
  conv at ev => lhs; cbv
  conv at ex => lhs; cbv
  conv at ey => lhs; cbv
  conv at ez => lhs; cbv
  conv at ea => lhs; cbv
  conv at eb => lhs; cbv
  cbv
  rewrite [h1]
  cbv
  rewrite [h2]
  cbv
  rewrite [keq (1) (0)]
  cbv
  rewrite [e1]
  cbv
  rewrite [h3]
  cbv
  rewrite [h4]
  cbv
  rewrite [h5]
  cbv
  rewrite [h6]
  cbv
  rewrite [h7]
  cbv
  rewrite [ew]
  cbv
  rewrite [eu]
  cbv
  rewrite [ev]
  cbv
  rewrite [ex]
  cbv
  rewrite [h14]
  cbv
  rewrite [e1]
  cbv
  rewrite [ez]
  cbv
  rewrite [ea]
  cbv
  rewrite [eb]
  cbv
  rewrite [ey]
  cbv
  rewrite [ey]
  cbv
  rewrite [h13]
  cbv
  rewrite [h8]
  cbv
  rewrite [e2]
  cbv
  rewrite [e3]
  cbv
  rewrite [h9]
  cbv
  rewrite [h10]
  cbv
  rewrite [e4]
  cbv
  rewrite [e5]
  cbv
  rewrite [e6]
  cbv
  rewrite [e7]
  cbv
  rewrite [h11]
  cbv
  rewrite [e9]
  cbv
  rewrite [e5]
  cbv
  rewrite [e7]
  cbv
  rewrite [e8]
  cbv
  rewrite [h12]
  cbv
  rewrite [keq (13) (13)]
  cbv
  rewrite [keq (13) (13)]
  cbv
theorem eq_cb_ok_no (c : Int) (bs : List AV) (w : Nat) (ea : bs.length = w) (eb : 0 + w = w) (ec : lcut bs 0 w = bs) (ed : Nat.ble w w = true) (ee : 0 + n = n) (ef : lcut xs 0 n = xs) (eg : Nat.ble n n = true) (h6 : evl (envV A) (.call 21 [.sl 3 xs .imm] []) = some (.ret (.tup [.sl 1 bs .full, .s .nilIface]) []))
    (h13 : evl (envV A) (.call 16 [.sl 1 bs .imm] []) = some (.ret (.tup [.sl 3 xs .full, .s .nilIface]) [])) (h14 : evl (envV A) (.call 19 [.sl 3 xs .ro, .sl 3 xs .imm] []) = some (.ret (.s (.bool true)) []))
    (h7 : evl (envV A) (.call 16 [.sl 1 ys .imm] []) = some (.ret (.tup [.sl 3 [] .full, .s (.iface 39 (.int .i64 c))]) [])) :
    evl (envV A) (.call 4 [.sl 3 xs .imm, .sl 1 ys .imm, .s (.int .i64 k)] []) = some (.ret (.s (.bool true)) []) := by
  unfold stKe at h10
  unfold skA at e2
  rw [evl_fn (envV A) 4 _ _ (fn := Try.f4) (c := bd4) (lv := lvF4) rfl rfl rfl rfl rfl rfl]
  have hnle := hA.nleE; have hneq := hA.neqE
  have klt := hA.lt; have kle := hA.le; have keq := hA.eq; have knle := hA.nle; have kneq := hA.neq
  rw [lp_split (lpOf (envV A) 4 bd4) 17]
  generalize lpOf (envV A) 4 bd4 17 = L17 at e0 e1 h1 h2 h3 h4 h5 e2 e3 e4 e5 e6 e7 e8 e9 h8 h9 h10 h11 h12 ea eb ec ed ee ef eg h13 h14 h6 h7 ⊢
  generalize lpOf (envV A) 4 bd4 = LP
  generalize evl (envV A) = E at e0 e1 h1 h2 h3 h4 h5 e2 e3 e4 e5 e6 e7 e8 e9 h8 h9 h10 h11 h12 ea eb ec ed ee ef eg h13 h14 h6 h7 ⊢
  obtain ⟨aadd, asub, amul, arem, aquo, awr, ashr, aeq, alt, ale, aseq, aslt, acat, acut, asiz, aat, anle, aneq, afit⟩ := A
  simp only at hnle hneq
  subst hnle hneq
  simp only at klt kle keq knle kneq
  try simp only at h1 h2 h3 h4 h5 h8 h9 h10 h11 h12 h13 h14 h6 h7
  conv at e0 => lhs; cbv
  conv at e1 => lhs; cbv
  conv at e2 => lhs; cbv
  conv at e3 => lhs; cbv
  conv at e4 => lhs; cbv
  conv at e5 => lhs; cbv
  conv at e6 => lhs; cbv
  conv at e7 => lhs; cbv
  conv at e8 => lhs; cbv
  conv at e9 => lhs; cbv
  conv at ea => lhs; cbv
  conv at eb => lhs; cbv
  conv at ec => lhs; cbv
  conv at ed => lhs; cbv
  conv at ee => lhs; cbv
  conv at ef => lhs; cbv
  conv at eg => lhs; cbv
  cbv
  rewrite [h1]
  cbv
  rewrite [h2]
  cbv
  rewrite [keq (1) (0)]
  cbv
  rewrite [e1]
  cbv
  rewrite [h3]
  cbv
  rewrite [h4]
  cbv
  rewrite [h5]
  cbv
  rewrite [h6]
  cbv
  rewrite [ea]
  cbv
  rewrite [eb]
  cbv
  rewrite [ec]
  cbv
  rewrite [ed]
  cbv
  rewrite [h13]
  cbv
  rewrite [e0]
  cbv
  rewrite [ee]
  cbv
  rewrite [ef]
  cbv
  rewrite [eg]
  cbv
  rewrite [h14]
  cbv
  rewrite [h7]
  cbv
  rewrite [h8]
  cbv
  rewrite [e2]
  cbv
  rewrite [e3]
  cbv
  rewrite [h9]
  cbv
  rewrite [h10]
  cbv
  rewrite [e4]
  cbv
  rewrite [e5]
  cbv
  rewrite [e6]
  cbv
  rewrite [e7]
  cbv
  rewrite [h11]
  cbv
  rewrite [e9]
  cbv
  rewrite [e5]
  cbv
  rewrite [e7]
  cbv
  rewrite [e8]
  cbv
  rewrite [h12]
  cbv
  rewrite [keq (13) (13)]
  cbv
  rewrite [keq (13) (13)]
  cbv
theorem eq_cb_ok_ok (bs : List AV) (w : Nat) (ea : bs.length = w) (eb : 0 + w = w) (ec : lcut bs 0 w = bs) (ed : Nat.ble w w = true) (ee : 0 + n = n) (ef : lcut xs 0 n = xs) (eg : Nat.ble n n = true) (h6 : evl (envV A) (.call 21 [.sl 3 xs .imm] []) = some (.ret (.tup [.sl 1 bs .full, .s .nilIface]) []))
    (h13 : evl (envV A) (.call 16 [.sl 1 bs .imm] []) = some (.ret (.tup [.sl 3 xs .full, .s .nilIface]) [])) (h14 : evl (envV A) (.call 19 [.sl 3 xs .ro, .sl 3 xs .imm] []) = some (.ret (.s (.bool true)) []))
    (ps : List AV) (bb : List UInt8) (v : Nat) (eh : ps.length = v) (ei : 0 + v = v) (ej : lcut ps 0 v = ps) (ek : Nat.ble v v = true) (el : bytesOf ys = some bb) (em : 0 + m = m) (en : Nat.ble m m = true) (eo : lcut ys 0 m = ys) (h15 : A.seq ⟨⟨bb⟩⟩ ⟨⟨bb⟩⟩ = true)
    (h7 : evl (envV A) (.call 16 [.sl 1 ys .imm] []) = some (.ret (.tup [.sl 3 ps .full, .s .nilIface]) [])) (h16 : evl (envV A) (.call 21 [.sl 3 ps .ro] []) = some (.ret (.tup [.sl 1 ys .full, .s .nilIface]) [])) :
    evl (envV A) (.call 4 [.sl 3 xs .imm, .sl 1 ys .imm, .s (.int .i64 k)] []) = some (.ret (.s (.bool true)) []) := by
  unfold stKe at h10
  unfold skA at e2
  rw [evl_fn (envV A) 4 _ _ (fn := Try.f4) (c := bd4) (lv := lvF4) rfl rfl rfl rfl rfl rfl]
  have hnle := hA.nleE; have hneq := hA.neqE
  have klt := hA.lt; have kle := hA.le; have keq := hA.eq; have knle := hA.nle; have kneq := hA.neq
  rw [lp_split (lpOf (envV A) 4 bd4) 17]
  generalize lpOf (envV A) 4 bd4 17 = L17 at e0 e1 h1 h2 h3 h4 h5 e2 e3 e4 e5 e6 e7 e8 e9 h8 h9 h10 h11 h12 ea eb ec ed ee ef eg h13 h14 h6 eh ei ej ek el em en eo h15 h16 h7 ⊢
  generalize lpOf (envV A) 4 bd4 = LP
  generalize evl (envV A) = E at e0 e1 h1 h2 h3 h4 h5 e2 e3 e4 e5 e6 e7 e8 e9 h8 h9 h10 h11 h12 ea eb ec ed ee ef eg h13 h14 h6 eh ei ej ek el em en eo h15 h16 h7 ⊢
  obtain ⟨aadd, asub, amul, arem, aquo, awr, ashr, aeq, alt, ale, aseq, aslt, acat, acut, asiz, aat, anle, aneq, afit⟩ := A
  simp only at hnle hneq
  subst hnle hneq
  simp only at klt kle keq knle kneq
  try simp only at h1 h2 h3 h4 h5 h8 h9 h10 h11 h12 h13 h14 h6 h15 h16 h7
  conv at e0 => lhs; cbv
  conv at e1 => lhs; cbv
  conv at e2 => lhs; cbv
  conv at e3 => lhs; cbv
  conv at e4 => lhs; cbv
  conv at e5 => lhs; cbv
  conv at e6 => lhs; cbv
  conv at e7 => lhs; cbv
  conv at e8 => lhs; cbv
  conv at e9 => lhs; cbv
  conv at ea => lhs; cbv
  conv at eb => lhs; cbv
  conv at ec => lhs; cbv
  conv at ed => lhs; cbv
  conv at ee => lhs; cbv
  conv at ef => lhs; cbv
  conv at eg => lhs; cbv
  conv at eh => lhs; cbv
  conv at ei => lhs; cbv
  conv at ej => lhs; cbv
  conv at ek => lhs; cbv
  conv at el => lhs; cbv
  conv at em => lhs; cbv
  conv at en => lhs; cbv
  conv at eo => lhs; cbv
  cbv
  rewrite [h1]
  cbv
  rewrite [h2]
  cbv
  rewrite [keq (1) (0)]
  cbv
  rewrite [e1]
  cbv
  rewrite [h3]
  cbv
  rewrite [h4]
  cbv
  rewrite [h5]
  cbv
  rewrite [h6]
  cbv
  rewrite [ea]
  cbv
  rewrite [eb]
  cbv
  rewrite [ec]
  cbv
  rewrite [ed]
  cbv
  rewrite [h13]
  cbv
  rewrite [e0]
  cbv
  rewrite [ee]
  cbv
  rewrite [ef]
  cbv
  rewrite [eg]
  cbv
  rewrite [h14]
  cbv
  rewrite [h7]
  cbv
  rewrite [eh]
  cbv
  rewrite [ei]
  cbv
  rewrite [ej]
  cbv
  rewrite [ek]
  cbv
  rewrite [h16]
  cbv
  rewrite [e1]
  cbv
  rewrite [em]
  cbv
  rewrite [en]
  cbv
  rewrite [eo]
  cbv
  rewrite [el]
  cbv
  rewrite [el]
  cbv
  rewrite [h15]
  cbv
  rewrite [h8]
  cbv
  rewrite [e2]
  cbv
  rewrite [e3]
  cbv
  rewrite [h9]
  cbv
  rewrite [h10]
  cbv
  rewrite [e4]
  cbv
  rewrite [e5]
  cbv
  rewrite [e6]
  cbv
  rewrite [e7]
  cbv
  rewrite [h11]
  cbv
  rewrite [e9]
  cbv
  rewrite [e5]
  cbv
  rewrite [e7]
  cbv
  rewrite [e8]
  cbv
  rewrite [h12]
  cbv
  rewrite [keq (13) (13)]
  cbv
  rewrite [keq (13) (13)]
  cbv
end
end
end
end Go.Va
